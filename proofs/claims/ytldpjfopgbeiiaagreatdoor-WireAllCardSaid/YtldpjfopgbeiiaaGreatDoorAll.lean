/- The law WireAll of the wire (clerestorylaw21.WireAll) returns true for every message and every text, and its arguments read behind the call as they did. Conditions: those of the given row alone: the library's two tables of utf8 lie as the program's text lays them. -/
import Derived.Test.YtldpjfopgbeiiaaGreatDoorPD
import Derived.Lib.RuneCountTail

namespace Go.AI
open Go.Proofs Go
variable (W0 : World)
set_option maxRecDepth 20000
set_option maxHeartbeats 2000000

theorem c_rcont (s : Str) (p n : Nat) (hp : p ≤ 2 ^ 41) (hn : n ≤ 4) (h : H) : ACalls Tryz.prog W0 69 [.v (V.s s), .v (V.i p), .v (V.i n)] h fun r h' => r = .v (V.b (contB s p n)) ∧ h' = h := by
  have key : ∀ b : Bool, contB s p n = b → A.v (V.b b) = A.v (V.b (contB s p n)) := by rintro b rfl; rfl
  refine ACalls.of (C := CO [] fun _ => ([], [], 0)) (cOkO _ _) hP (fn := Tryz.f69) (by kernel_rfl) (by kernel_rfl) ?_
  refine ⟨by show inI64 ((p : Int) + n); unfold inI64; omega, ?_⟩
  refine ⟨fun c1 => ?_, fun c1 => ?_⟩
  · replace c1 : (s.size : Int) < (p : Int) + n := of_decide_eq_true c1
    exact ⟨key false (by unfold contB; rw [decide_eq_false (by omega)]; rfl), rfl⟩
  replace c1 : ¬ (s.size : Int) < (p : Int) + n := of_decide_eq_false c1
  have hle : p + n ≤ s.size := by omega
  have hall : contB s p n = contL s p n := by unfold contB; rw [decide_eq_true hle]; rfl
  refine ⟨0, [0, 1, 2, 7], 0, fun m xs l h2 => ∃ (j : Nat) (q : Int), xs = [.v (V.s s), .v (V.i p), .v (V.i n), .v (V.i q)] ∧ l = [] ∧ h2 = h ∧ m + j = n ∧ q = p + j ∧ contL s (p + j) m = contL s p n,
    ⟨n, 0, _, rfl, rfl, rfl, by show n + 0 = n; omega, by show (p : Int) = p + (0 : Nat); omega, rfl⟩, ?_⟩
  rintro m xs l h2 ⟨j, q, rfl, rfl, rfl, hj, rfl, hc⟩
  replace hj : (m : Nat) + j = n := hj
  refine ⟨by show inI64 ((p : Int) + n); unfold inI64; omega, ?_⟩
  refine ⟨fun c2 => ?_, fun c2 => ?_⟩
  · replace c2 : (p : Int) + j < (p : Int) + n := of_decide_eq_true c2
    cases m with
    | zero => omega
    | succ m =>
    have hix : ((p : Int) + j).toNat = p + j := by omega
    have hx := and_192b (B_lt s (p + j))
    rw [← getD_B, ← hix] at hx
    replace hc : (decide (B s (p + j) / 64 = 2) && contL s (p + j + 1) m) = contL s p n := hc
    refine ⟨by show 0 ≤ (p : Int) + j ∧ (p : Int) + j < (s.size : Int); omega, ?_⟩
    refine ⟨fun c3 => ?_, fun c3 => ?_⟩
    · replace c3 := hx.symm.trans c3
      rw [hix, getD_B] at c3
      have c4 : decide (B s (p + j) / 64 = 2) = false := by revert c3; cases decide (B s (p + j) / 64 = 2) <;> simp
      rw [c4] at hc
      exact ⟨key false (hall.trans hc.symm), rfl⟩
    · replace c3 := hx.symm.trans c3
      rw [hix, getD_B] at c3
      have c4 : decide (B s (p + j) / 64 = 2) = true := by revert c3; cases decide (B s (p + j) / 64 = 2) <;> simp
      rw [c4] at hc
      refine ⟨by show inI64 ((p : Int) + j + 1); unfold inI64; omega, ?_⟩
      exact ⟨m, by show m < m + 1; omega, j + 1, _, rfl, rfl, rfl, by show m + (j + 1) = n; omega, by show (p : Int) + j + 1 = p + ((j + 1 : Nat) : Int); omega, hc⟩
  · replace c2 : ¬ (p : Int) + j < (p : Int) + n := of_decide_eq_false c2
    obtain rfl : m = 0 := by show (m : Nat) = 0; omega
    exact ⟨key true (hall.trans hc.symm), rfl⟩

def uV (s : Str) (p : Nat) : V := .agg [.lit (.int .i32 ((Utf8.decode s p).1 : Int)), V.i p, V.i ((Utf8.decode s p).2 : Int), V.b (okU s p)]
theorem uV_eq {s : Str} {p a n : Nat} {b : Bool} (h : Utf8.decode s p = (a, n)) (hb : okU s p = b) : uV s p = .agg [.lit (.int .i32 (a : Int)), V.i p, V.i (n : Int), V.b b] := by
  unfold uV; rw [h, hb]
theorem uV_bad {s : Str} {p : Nat} (h : Utf8.decode s p = (65533, 1)) : uV s p = .agg [.lit (.int .i32 65533), V.i p, V.i 1, V.b false] := uV_eq h (okU_bad h)

theorem bor_iff {a b : Bool} : (bif a then true else b) = true ↔ a = true ∨ b = true := by cases a <;> simp
theorem one_q (n : Int) (R : Nat) : (bif (bif (n == 2) then (bif decide ((R : Int) < 2048) then true else (bif decide (55296 ≤ (R : Int)) then decide ((R : Int) < 57344) else false)) else false) then true else
    (bif (n == 3) then (bif decide ((R : Int) < 65536) then true else decide (1114111 < (R : Int))) else false)) = true ↔ ((n = 2 ∧ (R < 2048 ∨ (55296 ≤ R ∧ R < 57344))) ∨ (n = 3 ∧ (R < 65536 ∨ 1114111 < R))) := by
  rw [bor_iff, band_iff, band_iff, bor_iff, bor_iff, band_iff, decide_eq_true_eq, decide_eq_true_eq, decide_eq_true_eq, decide_eq_true_eq, decide_eq_true_eq, beq_iff_eq, beq_iff_eq]
  omega

theorem c_one (s : Str) (p : Nat) (hp : p < s.size) (hs : s.size ≤ 2 ^ 40) (h : H) : ACalls Tryz.prog W0 64 [.v (V.s s), .v (V.i p)] h fun r h' => r = .v (uV s p) ∧ h' = h := by
  have key : ∀ v : V, uV s p = v → A.v v = A.v (uV s p) := by rintro b rfl; rfl
  have hb := B_lt s p
  have h31 := and_31 hb
  have h15 := and_15 hb
  have h7 := and_7 hb
  have g0 : (s.data.getD ((p : Int)).toNat 0).toNat = B s p := getD_B s p
  have c0 : IntKind.i32.wrap ((s.data.getD ((p : Int)).toNat 0).toNat : Int) = (B s p : Int) := by rw [g0]; exact wrapI32 (by omega) (by omega)
  obtain ⟨c, hc⟩ : ∃ c, c = B s p := ⟨_, rfl⟩
  rw [← hc] at hb h31 h15 h7 c0
  have one := dec_one s p
  have bad := dec_bad s p
  have two := dec_two s p
  have three := dec_three s p
  have four := dec_four s p
  rw [← hc] at one bad two three four
  refine ACalls.of (C := CO [] fun _ => ([], [], 0)) (cOkO _ _) hP (fn := Tryz.f64) (by kernel_rfl) (by kernel_rfl) ?_
  refine ⟨⟨by show (0:Int) ≤ (p : Int); omega, by show (p : Int) < (s.size : Int); omega⟩, ?_⟩
  refine ⟨(c : Int), c0, ?_⟩
  refine ⟨fun c1 => ?_, fun c1 => ?_⟩
  · replace c1 : (c : Int) < 128 := of_decide_eq_true c1
    have := one (by omega)
    exact ⟨key _ (uV_eq this.1 this.2), rfl⟩
  replace c1 : ¬ (c : Int) < 128 := of_decide_eq_false c1
  refine ⟨fun c2 => ?_, fun c2 => ?_⟩
  · replace c2 : 194 ≤ (c : Int) ∧ (c : Int) < 224 := by
      have c2 : (bif decide (194 ≤ (c : Int)) then decide ((c : Int) < 224) else false) = true := c2
      revert c2
      by_cases a1 : 194 ≤ (c : Int)
      · rw [decide_eq_true a1]; intro a2; exact ⟨a1, of_decide_eq_true a2⟩
      · rw [decide_eq_false a1]; intro a2; exact nomatch a2
    have law := two (by omega)
    refine ⟨by show inI64 ((p : Int) + 1); unfold inI64; omega, ?_⟩
    refine (c_rcont W0 s (p + 1) 1 (by omega) (by decide) _).mono ?_
    rintro _ h ⟨rfl, rfl⟩
    refine ⟨fun c4 => ?_, fun c4 => ?_⟩
    · have c5 : contB s (p + 1) 1 = false := by
        have c4 : (!contB s (p + 1) 1) = true := c4
        revert c4; cases contB s (p + 1) 1 <;> simp
      rw [c5, if_neg Bool.false_ne_true] at law
      exact ⟨key _ (uV_bad law), rfl⟩
    have c5 : contB s (p + 1) 1 = true := by
      have c4 : (!contB s (p + 1) 1) = false := c4
      revert c4; cases contB s (p + 1) 1 <;> simp
    have hsz := ((cont1 s p).1 c5).1
    rw [if_pos c5] at law
    refine ⟨0, [0, 1, 4, 6, 7, 8, 9], 2, fun m xs l h2 => ∃ (j : Nat) (q r : Int), xs = [.v (V.s s), .v (V.i p), .lp 0 0, .lp 1 0, .v (V.i 1), .v (.lit (.int .i32 r)), .v (V.i q)] ∧
        l = [.cells [.v (.lit (.int .i32 0)), .v (V.i 0), .v (V.i 0), .v (V.b false)], .cells [.v (.lit (.int .i32 65533)), .v (V.i p), .v (V.i 1), .v (V.b false)]] ∧ h2 = h ∧ m + j = 1 ∧ q = j + 1 ∧ r = (rv s p (c % 32) j : Int),
      ⟨1, 0, _, _, rfl, rfl, rfl, rfl, rfl, h31⟩, ?_⟩
    rintro m xs l h2 ⟨j, q, r, rfl, rfl, rfl, hj, rfl, rfl⟩
    replace hj : (m : Nat) + j = 1 := hj
    refine ⟨fun c6 => ?_, fun c6 => ?_⟩
    · replace c6 : (j : Int) + 1 ≤ 1 := of_decide_eq_true c6
      have hv : rv s p (c % 32) j < 2 ^ 20 := by
        have k1 := Nat.mod_lt (B s (p + 1)) (show 0 < 64 by decide)
        have k2 := Nat.mod_lt (B s (p + 2)) (show 0 < 64 by decide)
        have k3 := Nat.mod_lt c (show 0 < 32 by decide)
        match j, hj with
        | 0, _ => show c % 32 < _; omega
        | 1, _ => show c % 32 * 64 + B s (p + 1) % 64 < _; omega
        | 2, _ => show (c % 32 * 64 + B s (p + 1) % 64) * 64 + B s (p + 2) % 64 < _; omega
      have hx := B_lt s (p + (j + 1))
      have e1 : ((p : Int) + ((j : Int) + 1)).toNat = p + (j + 1) := by omega
      have e2 := and_63 hx
      have e3 := or_i32 (x := B s (p + (j + 1)) % 64) (Nat.mod_lt _ (by decide)) hv
      rw [← getD_B, ← e1] at e2
      refine ⟨by show (0:Int) ≤ 6; decide, ?_⟩
      refine ⟨by show inI64 ((p : Int) + ((j : Int) + 1)); unfold inI64; omega, ?_⟩
      refine ⟨by show 0 ≤ (p : Int) + ((j : Int) + 1) ∧ (p : Int) + ((j : Int) + 1) < (s.size : Int); omega, ?_⟩
      refine ⟨((B s (p + (j + 1)) % 64 : Nat) : Int), ?_, ?_⟩
      · refine (congrArg IntKind.i32.wrap e2).trans ?_
        rw [e1, getD_B]
        exact wrapI32 (by omega) (by omega)
      refine ⟨by show inI64 ((j : Int) + 1 + 1); unfold inI64; omega, ?_⟩
      exact ⟨m - 1, by show (m : Nat) - 1 < m; omega, j + 1, _, _, rfl, rfl, rfl, by show (m : Nat) - 1 + (j + 1) = 1; omega, by show (j : Int) + 1 + 1 = ((j + 1 : Nat) : Int) + 1; omega, e3⟩
    · replace c6 : ¬ (j : Int) + 1 ≤ 1 := of_decide_eq_false c6
      obtain rfl : j = 1 := by omega
      obtain ⟨R, hR⟩ : ∃ R, R = rv s p (c % 32) 1 := ⟨_, rfl⟩
      rw [← hR] at law ⊢
      refine ⟨fun c7 => ?_, fun _ => ?_⟩
      · exact absurd ((one_q 1 R).1 c7) (by omega)
      refine ⟨by show inI64 2; unfold inI64; omega, ?_⟩
      exact ⟨key _ (uV_eq law (okU_ok law (by decide))), rfl⟩
  replace c2 : ¬ (194 ≤ (c : Int) ∧ (c : Int) < 224) := by
    have c2 : (bif decide (194 ≤ (c : Int)) then decide ((c : Int) < 224) else false) = false := c2
    rintro ⟨a1, a2⟩
    rw [decide_eq_true a1, decide_eq_true a2] at c2
    exact nomatch c2
  refine ⟨fun c2 => ?_, fun c2 => ?_⟩
  · replace c2 : 224 ≤ (c : Int) ∧ (c : Int) < 240 := by
      have c2 : (bif decide (224 ≤ (c : Int)) then decide ((c : Int) < 240) else false) = true := c2
      revert c2
      by_cases a1 : 224 ≤ (c : Int)
      · rw [decide_eq_true a1]; intro a2; exact ⟨a1, of_decide_eq_true a2⟩
      · rw [decide_eq_false a1]; intro a2; exact nomatch a2
    have law := three (by omega)
    refine ⟨by show inI64 ((p : Int) + 1); unfold inI64; omega, ?_⟩
    refine (c_rcont W0 s (p + 1) 2 (by omega) (by decide) _).mono ?_
    rintro _ h ⟨rfl, rfl⟩
    refine ⟨fun c4 => ?_, fun c4 => ?_⟩
    · have c5 : contB s (p + 1) 2 = false := by
        have c4 : (!contB s (p + 1) 2) = true := c4
        revert c4; cases contB s (p + 1) 2 <;> simp
      rw [c5, if_neg Bool.false_ne_true] at law
      exact ⟨key _ (uV_bad law), rfl⟩
    have c5 : contB s (p + 1) 2 = true := by
      have c4 : (!contB s (p + 1) 2) = false := c4
      revert c4; cases contB s (p + 1) 2 <;> simp
    have hsz := ((cont2 s p).1 c5).1
    rw [if_pos c5] at law
    refine ⟨0, [0, 1, 4, 6, 7, 8, 9], 2, fun m xs l h2 => ∃ (j : Nat) (q r : Int), xs = [.v (V.s s), .v (V.i p), .lp 0 0, .lp 1 0, .v (V.i 2), .v (.lit (.int .i32 r)), .v (V.i q)] ∧
        l = [.cells [.v (.lit (.int .i32 0)), .v (V.i 0), .v (V.i 0), .v (V.b false)], .cells [.v (.lit (.int .i32 65533)), .v (V.i p), .v (V.i 1), .v (V.b false)]] ∧ h2 = h ∧ m + j = 2 ∧ q = j + 1 ∧ r = (rv s p (c % 16) j : Int),
      ⟨2, 0, _, _, rfl, rfl, rfl, rfl, rfl, h15⟩, ?_⟩
    rintro m xs l h2 ⟨j, q, r, rfl, rfl, rfl, hj, rfl, rfl⟩
    replace hj : (m : Nat) + j = 2 := hj
    refine ⟨fun c6 => ?_, fun c6 => ?_⟩
    · replace c6 : (j : Int) + 1 ≤ 2 := of_decide_eq_true c6
      have hv : rv s p (c % 16) j < 2 ^ 20 := by
        have k1 := Nat.mod_lt (B s (p + 1)) (show 0 < 64 by decide)
        have k2 := Nat.mod_lt (B s (p + 2)) (show 0 < 64 by decide)
        have k3 := Nat.mod_lt c (show 0 < 16 by decide)
        match j, hj with
        | 0, _ => show c % 16 < _; omega
        | 1, _ => show c % 16 * 64 + B s (p + 1) % 64 < _; omega
        | 2, _ => show (c % 16 * 64 + B s (p + 1) % 64) * 64 + B s (p + 2) % 64 < _; omega
      have hx := B_lt s (p + (j + 1))
      have e1 : ((p : Int) + ((j : Int) + 1)).toNat = p + (j + 1) := by omega
      have e2 := and_63 hx
      have e3 := or_i32 (x := B s (p + (j + 1)) % 64) (Nat.mod_lt _ (by decide)) hv
      rw [← getD_B, ← e1] at e2
      refine ⟨by show (0:Int) ≤ 6; decide, ?_⟩
      refine ⟨by show inI64 ((p : Int) + ((j : Int) + 1)); unfold inI64; omega, ?_⟩
      refine ⟨by show 0 ≤ (p : Int) + ((j : Int) + 1) ∧ (p : Int) + ((j : Int) + 1) < (s.size : Int); omega, ?_⟩
      refine ⟨((B s (p + (j + 1)) % 64 : Nat) : Int), ?_, ?_⟩
      · refine (congrArg IntKind.i32.wrap e2).trans ?_
        rw [e1, getD_B]
        exact wrapI32 (by omega) (by omega)
      refine ⟨by show inI64 ((j : Int) + 1 + 1); unfold inI64; omega, ?_⟩
      exact ⟨m - 1, by show (m : Nat) - 1 < m; omega, j + 1, _, _, rfl, rfl, rfl, by show (m : Nat) - 1 + (j + 1) = 2; omega, by show (j : Int) + 1 + 1 = ((j + 1 : Nat) : Int) + 1; omega, e3⟩
    · replace c6 : ¬ (j : Int) + 1 ≤ 2 := of_decide_eq_false c6
      obtain rfl : j = 2 := by omega
      obtain ⟨R, hR⟩ : ∃ R, R = rv s p (c % 16) 2 := ⟨_, rfl⟩
      rw [← hR] at law ⊢
      refine ⟨fun c7 => ?_, fun c7 => ?_⟩
      · rw [if_pos (by have := (one_q 2 R).1 c7; omega)] at law
        exact ⟨key _ (uV_bad law), rfl⟩
      · rw [if_neg (fun hx => Bool.false_ne_true (c7.symm.trans ((one_q 2 R).2 (by omega))))] at law
        refine ⟨by show inI64 3; unfold inI64; omega, ?_⟩
        exact ⟨key _ (uV_eq law (okU_ok law (by decide))), rfl⟩
  replace c2 : ¬ (224 ≤ (c : Int) ∧ (c : Int) < 240) := by
    have c2 : (bif decide (224 ≤ (c : Int)) then decide ((c : Int) < 240) else false) = false := c2
    rintro ⟨a1, a2⟩
    rw [decide_eq_true a1, decide_eq_true a2] at c2
    exact nomatch c2
  refine ⟨fun c2 => ?_, fun c2 => ?_⟩
  · replace c2 : 240 ≤ (c : Int) ∧ (c : Int) < 245 := by
      have c2 : (bif decide (240 ≤ (c : Int)) then decide ((c : Int) < 245) else false) = true := c2
      revert c2
      by_cases a1 : 240 ≤ (c : Int)
      · rw [decide_eq_true a1]; intro a2; exact ⟨a1, of_decide_eq_true a2⟩
      · rw [decide_eq_false a1]; intro a2; exact nomatch a2
    have law := four (by omega)
    refine ⟨by show inI64 ((p : Int) + 1); unfold inI64; omega, ?_⟩
    refine (c_rcont W0 s (p + 1) 3 (by omega) (by decide) _).mono ?_
    rintro _ h ⟨rfl, rfl⟩
    refine ⟨fun c4 => ?_, fun c4 => ?_⟩
    · have c5 : contB s (p + 1) 3 = false := by
        have c4 : (!contB s (p + 1) 3) = true := c4
        revert c4; cases contB s (p + 1) 3 <;> simp
      rw [c5, if_neg Bool.false_ne_true] at law
      exact ⟨key _ (uV_bad law), rfl⟩
    have c5 : contB s (p + 1) 3 = true := by
      have c4 : (!contB s (p + 1) 3) = false := c4
      revert c4; cases contB s (p + 1) 3 <;> simp
    have hsz := ((cont3 s p).1 c5).1
    rw [if_pos c5] at law
    refine ⟨0, [0, 1, 4, 6, 7, 8, 9], 2, fun m xs l h2 => ∃ (j : Nat) (q r : Int), xs = [.v (V.s s), .v (V.i p), .lp 0 0, .lp 1 0, .v (V.i 3), .v (.lit (.int .i32 r)), .v (V.i q)] ∧
        l = [.cells [.v (.lit (.int .i32 0)), .v (V.i 0), .v (V.i 0), .v (V.b false)], .cells [.v (.lit (.int .i32 65533)), .v (V.i p), .v (V.i 1), .v (V.b false)]] ∧ h2 = h ∧ m + j = 3 ∧ q = j + 1 ∧ r = (rv s p (c % 8) j : Int),
      ⟨3, 0, _, _, rfl, rfl, rfl, rfl, rfl, h7⟩, ?_⟩
    rintro m xs l h2 ⟨j, q, r, rfl, rfl, rfl, hj, rfl, rfl⟩
    replace hj : (m : Nat) + j = 3 := hj
    refine ⟨fun c6 => ?_, fun c6 => ?_⟩
    · replace c6 : (j : Int) + 1 ≤ 3 := of_decide_eq_true c6
      have hv : rv s p (c % 8) j < 2 ^ 20 := by
        have k1 := Nat.mod_lt (B s (p + 1)) (show 0 < 64 by decide)
        have k2 := Nat.mod_lt (B s (p + 2)) (show 0 < 64 by decide)
        have k3 := Nat.mod_lt c (show 0 < 8 by decide)
        match j, hj with
        | 0, _ => show c % 8 < _; omega
        | 1, _ => show c % 8 * 64 + B s (p + 1) % 64 < _; omega
        | 2, _ => show (c % 8 * 64 + B s (p + 1) % 64) * 64 + B s (p + 2) % 64 < _; omega
      have hx := B_lt s (p + (j + 1))
      have e1 : ((p : Int) + ((j : Int) + 1)).toNat = p + (j + 1) := by omega
      have e2 := and_63 hx
      have e3 := or_i32 (x := B s (p + (j + 1)) % 64) (Nat.mod_lt _ (by decide)) hv
      rw [← getD_B, ← e1] at e2
      refine ⟨by show (0:Int) ≤ 6; decide, ?_⟩
      refine ⟨by show inI64 ((p : Int) + ((j : Int) + 1)); unfold inI64; omega, ?_⟩
      refine ⟨by show 0 ≤ (p : Int) + ((j : Int) + 1) ∧ (p : Int) + ((j : Int) + 1) < (s.size : Int); omega, ?_⟩
      refine ⟨((B s (p + (j + 1)) % 64 : Nat) : Int), ?_, ?_⟩
      · refine (congrArg IntKind.i32.wrap e2).trans ?_
        rw [e1, getD_B]
        exact wrapI32 (by omega) (by omega)
      refine ⟨by show inI64 ((j : Int) + 1 + 1); unfold inI64; omega, ?_⟩
      exact ⟨m - 1, by show (m : Nat) - 1 < m; omega, j + 1, _, _, rfl, rfl, rfl, by show (m : Nat) - 1 + (j + 1) = 3; omega, by show (j : Int) + 1 + 1 = ((j + 1 : Nat) : Int) + 1; omega, e3⟩
    · replace c6 : ¬ (j : Int) + 1 ≤ 3 := of_decide_eq_false c6
      obtain rfl : j = 3 := by omega
      obtain ⟨R, hR⟩ : ∃ R, R = rv s p (c % 8) 3 := ⟨_, rfl⟩
      rw [← hR] at law ⊢
      refine ⟨fun c7 => ?_, fun c7 => ?_⟩
      · rw [if_pos (by have := (one_q 3 R).1 c7; omega)] at law
        exact ⟨key _ (uV_bad law), rfl⟩
      · rw [if_neg (fun hx => Bool.false_ne_true (c7.symm.trans ((one_q 3 R).2 (by omega))))] at law
        refine ⟨by show inI64 4; unfold inI64; omega, ?_⟩
        exact ⟨key _ (uV_eq law (okU_ok law (by decide))), rfl⟩
  replace c2 : ¬ (240 ≤ (c : Int) ∧ (c : Int) < 245) := by
    have c2 : (bif decide (240 ≤ (c : Int)) then decide ((c : Int) < 245) else false) = false := c2
    rintro ⟨a1, a2⟩
    rw [decide_eq_true a1, decide_eq_true a2] at c2
    exact nomatch c2
  exact ⟨key _ (uV_bad (bad (by omega) (by omega))), rfl⟩

end Go.AI

namespace Go.AI
open Go.Proofs Go
variable (W0 : World)
set_option maxRecDepth 20000
set_option maxHeartbeats 2000000

def letU (s : Str) (p : Nat) : Bool := okU s p && isLetter ((Utf8.decode s p).1 : Int)
theorem c_Letter (s : Str) (p : Nat) (h : H) : ACalls Tryz.prog W0 58 [.v (uV s p)] h fun r h' => r = .v (V.b (letU s p)) ∧ h' = h := by
  unfold uV
  have key : ∀ b : Bool, letU s p = b → A.v (V.b b) = A.v (V.b (letU s p)) := by rintro b rfl; rfl
  have hl : letU s p = (bif okU s p then (bif (bif (bif decide (97 ≤ ((Utf8.decode s p).1 : Int)) then decide (((Utf8.decode s p).1 : Int) ≤ 122) else false) then true else (((Utf8.decode s p).1 : Int) == 95)) then true else decide (128 ≤ ((Utf8.decode s p).1 : Int))) else false) := by
    unfold letU isLetter
    cases okU s p <;> cases (((Utf8.decode s p).1 : Int) == 95) <;> cases decide (97 ≤ ((Utf8.decode s p).1 : Int)) <;> cases decide (((Utf8.decode s p).1 : Int) ≤ 122) <;> cases decide (128 ≤ ((Utf8.decode s p).1 : Int)) <;> rfl
  generalize okU s p = ok at hl ⊢
  generalize ((Utf8.decode s p).1 : Int) = r at hl ⊢
  refine ACalls.of (C := CO [] fun _ => ([], [], 0)) (cOkO _ _) hP (fn := Tryz.f58) (by kernel_rfl) (by kernel_rfl) ?_
  exact ⟨key _ hl, rfl⟩

def allP (s : Str) : Nat → Nat → List Nat
  | 0, _ => []
  | m + 1, p => if p < s.size then p :: allP s m (p + (Utf8.decode s p).2) else []
theorem dec_le (s : Str) (p : Nat) : (Utf8.decode s p).2 ≤ 4 := by
  rw [dec_eq]; unfold Lib.decodeN
  repeat' split
  all_goals (simp only []; omega)
theorem allP_len (s : Str) : ∀ m p, (allP s m p).length ≤ s.size - p := by
  intro m
  induction m with
  | zero => intro p; exact Nat.zero_le _
  | succ m ih =>
    intro p
    have := ih (p + (Utf8.decode s p).2)
    have hw := Lib.width_pos s p
    simp only [allP]
    split
    · simp only [List.length_cons]; omega
    · exact Nat.zero_le _

theorem c_All (s : Str) (hs : s.size ≤ 2 ^ 40) (h : H) : ACalls Tryz.prog W0 57 [.v (V.s s)] h fun r h' => r = .own 4 ((allP s (s.size + 1) 0).map (uV s)) ∧ h' = h := by
  refine ACalls.of (C := CO [13, 21] fun _ => ([], [], 0)) (cOkO _ _) hP (fn := Tryz.f57) (by kernel_rfl) (by kernel_rfl) ?_
  refine ⟨0, [0, 3, 4], 0, fun m xs l h2 => ∃ (p : Nat) (pre : List Nat) (q : Int) (acc : List V), xs = [.v (V.s s), .own 4 acc, .v (V.i q)] ∧ l = [] ∧ h2 = h ∧ q = p ∧ acc = pre.map (uV s) ∧ pre ++ allP s m p = allP s (s.size + 1) 0 ∧ s.size < m + p ∧ pre.length ≤ p,
    ⟨s.size + 1, 0, [], _, _, rfl, rfl, rfl, rfl, rfl, rfl, by show s.size < s.size + 1 + 0; omega, Nat.le_refl 0⟩, ?_⟩
  rintro m xs l h2 ⟨p, pre, q, acc, rfl, rfl, rfl, rfl, rfl, he, hm, hl⟩
  replace hm : s.size < (m : Nat) + p := hm
  refine ⟨fun c1 => ?_, fun c1 => ?_⟩
  · replace c1 : (p : Int) < (s.size : Int) := of_decide_eq_true c1
    cases m with
    | zero => omega
    | succ m =>
    have hw := Lib.width_pos s p
    have hw4 := dec_le s p
    have e1 : allP s (m + 1) p = p :: allP s m (p + (Utf8.decode s p).2) := by simp only [allP]; rw [if_pos (by omega)]
    rw [e1] at he
    refine (c_one W0 s p (by omega) hs _).mono ?_
    rintro _ _ ⟨rfl, rfl⟩
    refine ⟨by show ((pre.map (uV s)).length + 1) * 32 ≤ 70368744177664; rw [List.length_map]; omega, _, rfl, ?_⟩
    refine ⟨by show inI64 ((p : Int) + ((Utf8.decode s p).2 : Int)); unfold inI64; omega, ?_⟩
    exact ⟨m, by show m < m + 1; omega, p + (Utf8.decode s p).2, pre ++ [p], _, _, rfl, rfl, rfl, by show (p : Int) + ((Utf8.decode s p).2 : Int) = _; omega, by rw [List.map_append]; rfl, by rw [List.append_assoc]; exact he, by show s.size < m + (p + (Utf8.decode s p).2); omega, by rw [List.length_append]; show pre.length + 1 ≤ _; omega⟩
  · replace c1 : ¬ (p : Int) < (s.size : Int) := of_decide_eq_false c1
    have e0 : allP s m p = [] := by
      cases m with
      | zero => rfl
      | succ m => simp only [allP]; rw [if_neg (by omega)]
    rw [e0, List.append_nil] at he
    rw [he]
    exact ⟨rfl, rfl⟩
end Go.AI

namespace Go.AI
open Go.Proofs Go
variable (W0 : World)
set_option maxRecDepth 20000
set_option maxHeartbeats 2000000

def digU (s : Str) (p : Nat) : Bool := decide (0 < p) && (decide (48 ≤ ((Utf8.decode s p).1 : Int)) && decide (((Utf8.decode s p).1 : Int) ≤ 57))
def goodU (s : Str) (p : Nat) : Bool := letU s p || digU s p
theorem okU_right (s : Str) (p : Nat) (hp : p < s.size) : okU s p = isRight s p ((Utf8.decode s p).1 : Int) := by
  have hw := Lib.width_pos s p
  have hd : decG (s.extract p s.size) = Utf8.decode s p := by
    unfold decG
    have hz : (s.extract p s.size).size ≠ 0 := by rw [ByteArray.size_extract]; omega
    rw [if_neg hz]
    exact Lib.tail_decode s p 0
  unfold okU isRight
  rw [hd]
  obtain ⟨⟨a, n⟩, hq⟩ : ∃ d, d = Utf8.decode s p := ⟨_, rfl⟩
  rw [← hq] at hw ⊢
  simp only [Prod.mk.injEq] at hw ⊢
  by_cases h1 : a = 65533
  · subst h1
    rw [if_pos (by decide)]
    by_cases h2 : n = 1
    · subst h2; rfl
    · rw [decide_eq_false (by omega), decide_eq_true (by omega)]; rfl
  · rw [if_neg (by omega), decide_eq_false (by omega)]; rfl
theorem goodU_eq (s : Str) (p : Nat) (hp : p < s.size) : goodU s p = ((isLetter ((Utf8.decode s p).1 : Int) || (decide (48 ≤ ((Utf8.decode s p).1 : Int)) && decide (((Utf8.decode s p).1 : Int) ≤ 57) && decide (0 < p))) && isRight s p ((Utf8.decode s p).1 : Int)) := by
  have hr := okU_right s p hp
  unfold goodU letU digU
  rw [hr]
  by_cases h1 : ((Utf8.decode s p).1 : Int) = 65533
  · rw [h1]
    have a1 : isLetter 65533 = true := by decide
    have a2 : decide ((65533 : Int) ≤ 57) = false := by decide
    rw [a1, a2]; cases isRight s p 65533 <;> simp
  · have : isRight s p ((Utf8.decode s p).1 : Int) = true := by unfold isRight; rw [if_neg h1]
    rw [this]
    cases isLetter ((Utf8.decode s p).1 : Int) <;> cases decide (0 < p) <;> cases decide (48 ≤ ((Utf8.decode s p).1 : Int)) <;> cases decide (((Utf8.decode s p).1 : Int) ≤ 57) <;> rfl
theorem allP_good (s : Str) : ∀ m p, (allP s m p).all (goodU s) = nameFrom s m p := by
  intro m
  induction m with
  | zero => intro p; rfl
  | succ m ih =>
    intro p
    rw [nameFrom_succ]
    simp only [allP]
    split
    · rename_i hp
      rw [List.all_cons, ih, goodU_eq s p hp]
      split
      · rename_i hc; rw [hc]; rfl
      · rename_i hc
        rw [Bool.eq_false_iff.2 hc]; rfl
    · rfl
theorem allP_get (s : Str) : ∀ m p i x, (allP s m p)[i]? = some x → p ≤ x ∧ (i = 0 → x = p) ∧ (0 < i → p < x) := by
  intro m
  induction m with
  | zero => intro p i x h; simp [allP] at h
  | succ m ih =>
    intro p i x h
    have hw := Lib.width_pos s p
    simp only [allP] at h
    split at h
    · cases i with
      | zero => cases h; exact ⟨Nat.le_refl _, fun _ => rfl, fun h => by omega⟩
      | succ i =>
        have := ih _ _ _ h
        exact ⟨by omega, fun h => by omega, fun _ => by omega⟩
    · simp at h
theorem take_all {α : Type} (f : α → Bool) (l : List α) (j : Nat) (x : α) (h : l[j]? = some x) (hf : f x = false) : l.all f = false := by
  rw [List.all_eq_false]
  exact ⟨x, List.mem_of_getElem? h, by rw [hf]; exact Bool.false_ne_true⟩

theorem rn_cond (s : Str) (x j : Nat) (h : (j = 0 → x = 0) ∧ (0 < j → 0 < x)) :
    (bif !letU s x then (bif (bif ((j : Int) == 0) then true else decide (((Utf8.decode s x).1 : Int) < 48)) then true else decide (57 < ((Utf8.decode s x).1 : Int))) else false) = true ↔ goodU s x = false := by
  rw [band_iff, bor_iff, bor_iff]
  unfold goodU digU
  rw [Bool.or_eq_false_iff, beq_iff_eq, decide_eq_true_eq, decide_eq_true_eq]
  cases hl : letU s x with
  | true => simp
  | false =>
    simp only [Bool.not_false, true_and, Bool.and_eq_false_iff, decide_eq_false_iff_not]
    omega

theorem c_rName (s : Str) (hs : s.size ≤ 2 ^ 40) (h : H) : ACalls Tryz.prog W0 47 [.v (V.s s)] h fun r h' => r = .v (V.b (isName s)) ∧ h' = h := by
  have key : ∀ b : Bool, isName s = b → A.v (V.b b) = A.v (V.b (isName s)) := by rintro b rfl; rfl
  obtain ⟨L, hL⟩ : ∃ L, L = allP s (s.size + 1) 0 := ⟨_, rfl⟩
  have cA := c_All W0 s hs
  have hll := allP_len s (s.size + 1) 0
  have hget := allP_get s (s.size + 1) 0
  have hall := allP_good s (s.size + 1) 0
  rw [← hL] at cA hll hget hall
  have hvl : (L.map (uV s)).length = L.length := List.length_map _
  refine ACalls.of (C := CO [] fun _ => ([], [], 0)) (cOkO _ _) hP (fn := Tryz.f47) (by kernel_rfl) (by kernel_rfl) ?_
  refine (cA _).mono ?_
  rintro _ h ⟨rfl, rfl⟩
  refine ⟨0, [0, 3, 4], 0, fun m xs l h2 => ∃ (j : Nat) (q : Int) (V0 : List V), xs = [.v (V.s s), .own 4 V0, .v (V.i q)] ∧ l = [] ∧ h2 = h ∧ q = j ∧ V0 = L.map (uV s) ∧ m + j = L.length ∧ (L.take j).all (goodU s) = true,
    ⟨L.length, 0, _, _, rfl, rfl, rfl, rfl, rfl, rfl, rfl⟩, ?_⟩
  rintro m xs l h2 ⟨j, q, V0, rfl, rfl, rfl, rfl, rfl, hj, hg⟩
  replace hj : (m : Nat) + j = L.length := hj
  refine ⟨fun c1 => ?_, fun c1 => ?_⟩
  · replace c1 : (j : Int) < ((L.map (uV s)).length : Int) := of_decide_eq_true c1
    have hjl : j < L.length := by omega
    obtain ⟨x, hx⟩ : ∃ x, L[j]? = some x := ⟨_, List.getElem?_eq_getElem hjl⟩
    have hx2 : (L.map (uV s))[((j : Nat) : Int).toNat]? = some (uV s x) := by rw [Int.toNat_natCast, List.getElem?_map, hx]; rfl
    have h3 := hget j x hx
    have ht : L.take (j + 1) = L.take j ++ [x] := by rw [List.take_add_one, hx]; rfl
    refine ⟨uV s x, ⟨by show (0:Int) ≤ (j : Int); omega, hx2⟩, ?_⟩
    refine (c_Letter W0 s x _).mono ?_
    rintro _ h ⟨rfl, rfl⟩
    refine ⟨uV s x, fun hg => ⟨by show (0:Int) ≤ (j : Int); omega, hx2⟩, ?_⟩
    refine ⟨Nat.zero_le _, ?_⟩
    refine ⟨uV s x, fun hg => ⟨by show (0:Int) ≤ (j : Int); omega, hx2⟩, ?_⟩
    refine ⟨Nat.zero_le _, ?_⟩
    have hq := rn_cond s x j h3.2
    refine ⟨fun c2 => ?_, fun c2 => ?_⟩
    · replace c2 := hq.1 c2
      refine ⟨key false ?_, rfl⟩
      unfold isName
      rw [← hall, take_all (goodU s) L j x hx c2]; rfl
    · have c3 : goodU s x = true := by
        cases hc : goodU s x with
        | true => rfl
        | false => exact absurd (c2.symm.trans (hq.2 hc)) (by decide)
      refine ⟨by show inI64 ((j : Int) + 1); unfold inI64; omega, ?_⟩
      exact ⟨m - 1, by show (m : Nat) - 1 < m; omega, j + 1, _, _, rfl, rfl, rfl, rfl, rfl, by show (m : Nat) - 1 + (j + 1) = L.length; omega, by rw [ht, List.all_append, hg, List.all_cons, c3]; rfl⟩
  · replace c1 : ¬ (j : Int) < ((L.map (uV s)).length : Int) := of_decide_eq_false c1
    rw [List.take_of_length_le (by omega), hall] at hg
    refine ⟨key _ ?_, rfl⟩
    unfold isName
    rw [hg]
    show _ = (bif decide (1 ≤ (s.size : Int)) then decide ((s.size : Int) ≤ 100) else false)
    have hp : decide ((s.size : Int) ≤ 100) = decide (s.size ≤ 100) := by
      by_cases hh : s.size ≤ 100
      · rw [decide_eq_true hh, decide_eq_true (by omega)]
      · rw [decide_eq_false hh, decide_eq_false (by omega)]
    rw [hp]
    by_cases hz : s = ⟨#[]⟩
    · subst hz; rfl
    · have : 1 ≤ s.size := by
        rcases Nat.eq_zero_or_pos s.size with h0 | h0
        · exact absurd (ByteArray.ext (Array.eq_empty_of_size_eq_zero h0)) hz
        · exact h0
      rw [decide_eq_true hz, decide_eq_true (by omega : 1 ≤ (s.size : Int))]; rfl
end Go.AI

namespace Go.AI
open Go.Proofs Go
variable (W0 : World)
set_option maxRecDepth 20000
set_option maxHeartbeats 2000000

theorem bytesLess_tri : ∀ x y : List UInt8, (Op.bytesLess x y || decide (x = y)) = !Op.bytesLess y x
  | [], [] => rfl
  | [], _ :: _ => rfl
  | _ :: _, [] => rfl
  | a :: x, b :: y => by
    have ih := bytesLess_tri x y
    have h1 : (a :: x = b :: y) ↔ (a = b ∧ x = y) := by simp
    simp only [Op.bytesLess]
    by_cases hab : a = b
    · subst hab
      have : ¬ a < a := UInt8.lt_irrefl a
      simp only [this, decide_false, Bool.false_or, beq_self_eq_true, Bool.true_and, h1, true_and]
      exact ih
    · have hba : ¬ b = a := fun h => hab h.symm
      have e1 : (a == b) = false := by simpa using hab
      have e2 : (b == a) = false := by simpa using hba
      rw [e1, e2]
      simp only [Bool.false_and, Bool.or_false, h1, hab, false_and, decide_false]
      rcases Nat.lt_trichotomy a.toNat b.toNat with h | h | h
      · have a1 : a < b := UInt8.lt_iff_toNat_lt.2 h
        have a2 : ¬ b < a := fun h2 => by have := UInt8.lt_iff_toNat_lt.1 h2; omega
        rw [decide_eq_true a1, decide_eq_false a2]; rfl
      · exact absurd (UInt8.toNat_inj.1 h) hab
      · have a1 : b < a := UInt8.lt_iff_toNat_lt.2 h
        have a2 : ¬ a < b := fun h2 => by have := UInt8.lt_iff_toNat_lt.1 h2; omega
        rw [decide_eq_true a1, decide_eq_false a2]; rfl
theorem strLess_tri (a b : Str) : (Op.bytesLess a.data.toList b.data.toList || decide (a = b)) = !strLess b a := by
  unfold strLess
  rw [← bytesLess_tri]
  congr 1
  apply decide_eq_decide.2
  constructor
  · rintro rfl; rfl
  · intro h; exact ByteArray.ext (Array.toList_inj.1 h)

theorem c_r06 (c : Cell) (h : H) : ACalls Tryz.prog W0 65 [.v (.agg c.v)] h fun r h' => r = .v (V.b (checkCell c)) ∧ h' = h := by
  obtain ⟨val, dead, at_, end_⟩ := c
  have key : ∀ b : Bool, checkCell ⟨val, dead, at_, end_⟩ = b → A.v (V.b b) = A.v (V.b (checkCell ⟨val, dead, at_, end_⟩)) := by rintro b rfl; rfl
  have hsp : checkCell ⟨val, dead, at_, end_⟩ = true ↔ ((0 ≤ at_ ∧ at_ ≤ 1099511627776) ∧ (0 ≤ end_ ∧ end_ ≤ 1099511627776) ∧ (if at_ = 0 then val = ⟨#[]⟩ ∧ dead = false ∧ end_ = 0 else if dead = true then val = ⟨#[]⟩ ∧ end_ = 0 else val.size ≤ 100)) := by
    unfold checkCell stampB
    simp only [Bool.and_eq_true, band_iff, decide_eq_true_eq]
    split
    · rename_i h1
      rw [← and_assoc]
      simp only [h1, true_and]
      split
      · simp [and_assoc]
      · split
        · simp
        · simp
    · rename_i h1
      constructor
      · intro h; cases h
      · intro h; exact absurd ⟨h.1, h.2.1⟩ h1
  refine ACalls.of (C := CO [] fun _ => ([], [], 0)) (cOkO _ _) hP (fn := Tryz.f65) (by kernel_rfl) (by kernel_rfl) ?_
  refine ⟨fun c1 => ?_, fun c1 => ?_⟩
  · replace c1 : at_ < 0 ∨ 1099511627776 < at_ := by
      have c1 : (bif decide (at_ < 0) then true else decide (1099511627776 < at_)) = true := c1
      rw [bor_iff, decide_eq_true_eq, decide_eq_true_eq] at c1
      exact c1
    refine ⟨key false ?_, rfl⟩
    rw [Bool.eq_false_iff, ne_eq, hsp]
    omega
  replace c1 : ¬ (at_ < 0 ∨ 1099511627776 < at_) := by
    have c1 : (bif decide (at_ < 0) then true else decide (1099511627776 < at_)) = false := c1
    intro hx
    have : (bif decide (at_ < 0) then true else decide (1099511627776 < at_)) = true := by rw [bor_iff, decide_eq_true_eq, decide_eq_true_eq]; exact hx
    rw [c1] at this; cases this
  refine ⟨fun c2 => ?_, fun c2 => ?_⟩
  · replace c2 : at_ = 0 ∨ dead = true := by
      have c2 : (bif (at_ == 0) then true else dead) = true := c2
      rw [bor_iff, beq_iff_eq] at c2
      exact c2
    refine ⟨key _ ?_, rfl⟩
    rw [Bool.eq_iff_iff, hsp]
    show _ ↔ (bif (bif decide (val = ⟨#[]⟩) then (end_ == 0) else false) then (bif decide (0 < at_) then true else !dead) else false) = true
    rw [band_iff, band_iff, bor_iff, decide_eq_true_eq, decide_eq_true_eq, beq_iff_eq]
    by_cases h1 : at_ = 0
    · rw [if_pos h1]
      constructor
      · rintro ⟨_, _, hv, hd, he⟩
        exact ⟨⟨hv, he⟩, .inr (by rw [hd]; rfl)⟩
      · rintro ⟨⟨hv, he⟩, ho⟩
        refine ⟨by omega, by omega, hv, ?_, he⟩
        rcases ho with ho | ho
        · omega
        · exact not_t ho
    · rw [if_neg h1]
      rcases c2 with c2 | c2
      · exact absurd c2 h1
      · rw [if_pos c2]
        constructor
        · rintro ⟨_, _, hv, he⟩
          exact ⟨⟨hv, he⟩, .inl (by omega)⟩
        · rintro ⟨⟨hv, he⟩, _⟩
          exact ⟨by omega, by omega, hv, he⟩
  · replace c2 : ¬ (at_ = 0 ∨ dead = true) := by
      have c2 : (bif (at_ == 0) then true else dead) = false := c2
      intro hx
      have : (bif (at_ == 0) then true else dead) = true := by rw [bor_iff, beq_iff_eq]; exact hx
      rw [c2] at this; cases this
    refine ⟨key _ ?_, rfl⟩
    rw [Bool.eq_iff_iff, hsp]
    show _ ↔ (bif (bif decide ((val.size : Int) ≤ 100) then decide (0 ≤ end_) else false) then decide (end_ ≤ 1099511627776) else false) = true
    rw [band_iff, band_iff, decide_eq_true_eq, decide_eq_true_eq, decide_eq_true_eq, if_neg (fun hx => c2 (.inl hx)), if_neg (fun hx => c2 (.inr hx))]
    omega
theorem c_r07s (v : Int) (h : H) : ACalls Tryz.prog W0 66 [.v (V.i v)] h fun r h' => r = .v (V.b (stampB v)) ∧ h' = h := by
  refine ACalls.of (C := CO [] fun _ => ([], [], 0)) (cOkO _ _) hP (fn := Tryz.f66) (by kernel_rfl) (by kernel_rfl) ?_
  exact ⟨rfl, rfl⟩
theorem c_r21i (v most : Int) (h : H) : ACalls Tryz.prog W0 34 [.v (V.i v), .v (V.i most)] h fun r h' => r = .v (V.b (inB v most)) ∧ h' = h := by
  refine ACalls.of (C := CO [] fun _ => ([], [], 0)) (cOkO _ _) hP (fn := Tryz.f34) (by kernel_rfl) (by kernel_rfl) ?_
  exact ⟨rfl, rfl⟩

theorem prev_ord' (d : List Col) (c : Col) : (bif decide ((0:Int) < (d.length : Int)) then (Op.bytesLess c.name.data.toList (prevN d c).name.data.toList || decide (c.name = (prevN d c).name)) else false) = !(match lastN d with | some n => strLess n c.name | none => true) := by
  rw [strLess_tri]; exact prev_ord d c
theorem c_r07 (r : Row) (hr : r.sized) (h : H) : ACalls Tryz.prog W0 59 [.v (.agg r.v)] h fun x h' => x = .v (V.b (checkRow r)) ∧ h' = h := by
  obtain ⟨key, ⟨val, dead, at_, end_⟩, gone, shade, cols⟩ := r
  obtain ⟨hk, hn⟩ := hr
  replace hk : cols.length ≤ 2 ^ 45 := hk
  replace hn : ∀ c ∈ cols, c.name.size ≤ 2 ^ 40 := hn
  have kk : ∀ b : Bool, b = checkRow ⟨key, ⟨val, dead, at_, end_⟩, gone, shade, cols⟩ → A.v (V.b b) = A.v (V.b (checkRow ⟨key, ⟨val, dead, at_, end_⟩, gone, shade, cols⟩)) := by rintro b rfl; rfl
  have hsp : checkRow ⟨key, ⟨val, dead, at_, end_⟩, gone, shade, cols⟩ = ((((((((decide (key.size ≤ 400) && checkCell ⟨val, dead, at_, end_⟩) && decide (val = ⟨#[]⟩)) && !dead) && stampB gone) && stampB shade) && decide (cols.length ≤ 8)) && colsOK none cols)) := rfl
  have hcl : (cols.map fun c => V.agg c.v).length = cols.length := List.length_map ..
  refine ACalls.of (C := CO [] fun i => match i with | 7 => ([0, 1, 2, 3, 4, 5, 6, 7, 8, 9, 10, 11, 12, 13, 14, 15, 16, 17, 18, 19, 20, 21, 22, 23, 24, 25, 26, 27, 28, 29, 30, 31], [], 1) | _ => ([], [], 0)) (cOkO _ _) hP (fn := Tryz.f59) (by kernel_rfl) (by kernel_rfl) ?_
  refine ⟨rfl, V.b (checkCell ⟨val, dead, at_, end_⟩), fun hg => (c_r06 W0 ⟨val, dead, at_, end_⟩ _), ?_⟩
  refine ⟨rfl, V.b (stampB gone), fun hg => (c_r07s W0 gone _), ?_⟩
  refine ⟨rfl, V.b (stampB shade), fun hg => (c_r07s W0 shade _), ?_⟩
  have conv : ∀ x : Bool, x = (bif (bif (bif (bif (bif (bif decide ((400:Int) < (key.size : Int)) then true else !checkCell ⟨val, dead, at_, end_⟩) then true else !decide (val = ⟨#[]⟩)) then true else dead) then true else !stampB gone) then true else !stampB shade) then true else decide ((8:Int) < ((cols.map fun c => V.agg c.v).length : Int))) →
      x = !(((((((decide (key.size ≤ 400) && checkCell ⟨val, dead, at_, end_⟩) && decide (val = ⟨#[]⟩)) && !dead) && stampB gone) && stampB shade) && decide (cols.length ≤ 8))) := by
    rintro x rfl
    rw [hcl, dec_lt key.size 400 400 rfl, dec_lt cols.length 8 8 rfl]
    cases decide (key.size ≤ 400) <;> cases checkCell ⟨val, dead, at_, end_⟩ <;> cases decide (val = ⟨#[]⟩) <;> cases dead <;> cases stampB gone <;> cases stampB shade <;> cases decide (cols.length ≤ 8) <;> rfl
  refine ⟨fun c4 => ?_, fun c4 => ?_⟩
  · replace c4 := (conv _ rfl).symm.trans c4
    refine ⟨kk false ?_, rfl⟩
    rw [hsp, not_t c4]; rfl
  replace c4 := (conv _ rfl).symm.trans c4
  replace c4 := not_f c4
  have hsp2 : checkRow ⟨key, ⟨val, dead, at_, end_⟩, gone, shade, cols⟩ = colsOK none cols := by rw [hsp, c4]; rfl
  refine ⟨0, [1, 3], 1, fun m xs l h2 => ∃ (d r : List Col) (k : Int), xs = [.lp 0 0, .v (V.i k)] ∧
      l = [.cells [.v (V.s key), .v (V.s val), .v (V.b dead), .v (V.i at_), .v (V.i end_), .v (V.i gone), .v (V.i shade), .v (.sl 5 (cols.map fun c => .agg c.v))]] ∧ h2 = h ∧ m = r.length ∧ cols = d ++ r ∧ k = d.length ∧
      colsOK none cols = colsOK (lastN d) r,
    ⟨cols.length, [], cols, _, rfl, rfl, rfl, rfl, rfl, rfl, rfl⟩, ?_⟩
  rintro m xs l h2 ⟨d, r, k, rfl, rfl, rfl, rfl, hd, rfl, hacc⟩
  have hdl : cols.length = d.length + r.length := by rw [hd, List.length_append]
  refine ⟨fun c6 => ?_, fun c6 => ?_⟩
  · replace c6 : (d.length : Int) < ((cols.map fun c => V.agg c.v).length : Int) := of_decide_eq_true c6
    rw [hcl] at c6
    cases r with
    | nil => exact absurd hdl (by simp only [List.length_nil]; omega)
    | cons c r =>
    have hget : (cols.map fun c => V.agg c.v)[d.length]? = some (.agg c.v) := by rw [hd]; exact map_get _ d c r
    have hm : c ∈ cols := by rw [hd]; simp
    simp only [List.length_cons] at hdl
    refine ⟨.agg c.v, ⟨by show (0:Int) ≤ (d.length : Int); omega, ?_⟩, ?_⟩
    · show (cols.map fun c => V.agg c.v)[((d.length : Nat) : Int).toNat]? = _
      rw [Int.toNat_natCast]; exact hget
    refine ⟨[], fun _ => false, ?_⟩
    refine (c_rName W0 c.name (hn c hm) _).mono ?_
    rintro _ h ⟨rfl, rfl⟩
    refine ⟨fun hg => by show inI64 ((d.length : Int) - 1); unfold inI64; omega, ?_⟩
    refine ⟨.agg (prevN d c).v, fun hg => ?_, ?_⟩
    · have hg' : (bif isName c.name then decide ((0:Int) < (d.length : Int)) else false) = true := by
        revert hg; cases isName c.name <;> cases decide ((0:Int) < (d.length : Int)) <;> decide
      have hpos : 0 < d.length := by
        rw [dec_pos] at hg'
        revert hg'
        cases isName c.name
        · intro h; cases h
        · exact of_decide_eq_true
      refine ⟨by show (0:Int) ≤ (d.length : Int) - 1; omega, ?_⟩
      show (cols.map fun c => V.agg c.v)[((d.length : Int) - 1).toNat]? = _
      rw [hd]; exact prev_get d c r _ rfl hpos
    refine ⟨Nat.zero_le _, ?_⟩
    refine ⟨rfl, V.b (checkCell c.cell), fun hg => (c_r06 W0 c.cell _), ?_⟩
    have hor := prev_ord' d c
    have conv : ∀ x : Bool, x = (bif (bif (bif !isName c.name then true else (bif decide ((0:Int) < (d.length : Int)) then (Op.bytesLess c.name.data.toList (prevN d c).name.data.toList || decide (c.name = (prevN d c).name)) else false)) then true else !checkCell c.cell) then true else decide (c.cell.at_ < 1)) →
        x = !(isName c.name && (match lastN d with | some n => strLess n c.name | none => true) && checkCell c.cell && decide (0 < c.cell.at_)) := by
      rintro x rfl
      rw [hor]
      have : decide (c.cell.at_ < 1) = !decide (0 < c.cell.at_) := by
        by_cases hh : 0 < c.cell.at_
        · rw [decide_eq_true hh, decide_eq_false (by omega)]; rfl
        · rw [decide_eq_false hh, decide_eq_true (by omega)]; rfl
      rw [this]
      cases isName c.name <;> cases (match lastN d with | some n => strLess n c.name | none => true) <;> cases checkCell c.cell <;> cases decide (0 < c.cell.at_) <;> rfl
    have hst : colsOK (lastN d) (c :: r) = (isName c.name && (match lastN d with | some n => strLess n c.name | none => true) && checkCell c.cell && decide (0 < c.cell.at_) && colsOK (some c.name) r) := rfl
    refine ⟨fun c8 => ?_, fun c8 => ?_⟩
    · replace c8 := (conv _ rfl).symm.trans c8
      refine ⟨kk false ?_, rfl⟩
      rw [hsp2, hacc, hst, not_t c8]; rfl
    · replace c8 := (conv _ rfl).symm.trans c8
      replace c8 := not_f c8
      refine ⟨by show inI64 ((d.length : Int) + 1); unfold inI64; omega, ?_⟩
      refine ⟨r.length, by show r.length < r.length + 1; omega, d ++ [c], r, _, rfl, rfl, rfl, rfl, by rw [hd]; simp, by simp, ?_⟩
      rw [hacc, hst, c8]; simp [lastN]
  · replace c6 : ¬ (d.length : Int) < ((cols.map fun c => V.agg c.v).length : Int) := of_decide_eq_false c6
    rw [hcl] at c6
    cases r with
    | cons c r => exact absurd hdl (by simp only [List.length_cons]; omega)
    | nil =>
    refine ⟨kk true ?_, rfl⟩
    rw [hsp2, hacc]; rfl
end Go.AI

namespace Go.AI
open Go.Proofs Go
variable (W0 : World)
set_option maxRecDepth 20000
set_option maxHeartbeats 2000000

theorem prevR_ord' (d : List Row) (c : Row) : (bif decide ((0:Int) < (d.length : Int)) then (Op.bytesLess c.key.data.toList (prevR d c).key.data.toList || decide (c.key = (prevR d c).key)) else false) = !(match lastR d with | some n => strLess n c.key | none => true) := by
  rw [strLess_tri]; exact prevR_ord d c
theorem c_r08 (p : Part) (hp : p.sized) (h : H) : ACalls Tryz.prog W0 48 [.v (.agg p.v)] h fun x h' => x = .v (V.b (checkPart p)) ∧ h' = h := by
  obtain ⟨key, gone, rows⟩ := p
  obtain ⟨hk, hn⟩ := hp
  replace hk : rows.length ≤ 2 ^ 45 := hk
  replace hn : ∀ r ∈ rows, r.sized := hn
  have kk : ∀ b : Bool, b = checkPart ⟨key, gone, rows⟩ → A.v (V.b b) = A.v (V.b (checkPart ⟨key, gone, rows⟩)) := by rintro b rfl; rfl
  have hsp : checkPart ⟨key, gone, rows⟩ = ((((decide (key.size ≤ 100) && decide (0 ≤ gone)) && decide (gone ≤ 1099511627776)) && decide (rows.length ≤ 100)) && rowsOK none rows) := rfl
  have hcl : (rows.map fun c => V.agg c.v).length = rows.length := List.length_map ..
  refine ACalls.of (C := CO [] fun i => match i with | 6 => ([0, 1, 2, 3, 4, 5, 6, 7, 8, 9, 10, 11, 12, 13, 14, 15, 16, 17, 18, 19, 20, 21, 22, 23, 24, 25, 26], [], 1) | _ => ([], [], 0)) (cOkO _ _) hP (fn := Tryz.f48) (by kernel_rfl) (by kernel_rfl) ?_
  have conv : ∀ x : Bool, x = (bif (bif (bif decide ((100:Int) < (key.size : Int)) then true else decide (gone < 0)) then true else decide (1099511627776 < gone)) then true else decide ((100:Int) < ((rows.map fun c => V.agg c.v).length : Int))) →
      x = !(((decide (key.size ≤ 100) && decide (0 ≤ gone)) && decide (gone ≤ 1099511627776)) && decide (rows.length ≤ 100)) := by
    rintro x rfl
    have e1 : decide (gone < 0) = !decide (0 ≤ gone) := by
      by_cases hh : 0 ≤ gone
      · rw [decide_eq_true hh, decide_eq_false (by omega)]; rfl
      · rw [decide_eq_false hh, decide_eq_true (by omega)]; rfl
    have e2 : decide (1099511627776 < gone) = !decide (gone ≤ 1099511627776) := by
      by_cases hh : gone ≤ 1099511627776
      · rw [decide_eq_true hh, decide_eq_false (by omega)]; rfl
      · rw [decide_eq_false hh, decide_eq_true (by omega)]; rfl
    rw [hcl, dec_lt key.size 100 100 rfl, dec_lt rows.length 100 100 rfl, e1, e2]
    cases decide (key.size ≤ 100) <;> cases decide (0 ≤ gone) <;> cases decide (gone ≤ 1099511627776) <;> cases decide (rows.length ≤ 100) <;> rfl
  refine ⟨fun c4 => ?_, fun c4 => ?_⟩
  · replace c4 := (conv _ rfl).symm.trans c4
    refine ⟨kk false ?_, rfl⟩
    rw [hsp, not_t c4]; rfl
  replace c4 := (conv _ rfl).symm.trans c4
  replace c4 := not_f c4
  have hsp2 : checkPart ⟨key, gone, rows⟩ = rowsOK none rows := by rw [hsp, c4]; rfl
  refine ⟨0, [1, 3], 1, fun m xs l h2 => ∃ (d r : List Row) (k : Int), xs = [.lp 0 0, .v (V.i k)] ∧
      l = [.cells [.v (V.s key), .v (V.i gone), .v (.sl 8 (rows.map fun c => .agg c.v))]] ∧ h2 = h ∧ m = r.length ∧ rows = d ++ r ∧ k = d.length ∧
      rowsOK none rows = rowsOK (lastR d) r,
    ⟨rows.length, [], rows, _, rfl, rfl, rfl, rfl, rfl, rfl, rfl⟩, ?_⟩
  rintro m xs l h2 ⟨d, r, k, rfl, rfl, rfl, rfl, hd, rfl, hacc⟩
  have hdl : rows.length = d.length + r.length := by rw [hd, List.length_append]
  refine ⟨fun c6 => ?_, fun c6 => ?_⟩
  · replace c6 : (d.length : Int) < ((rows.map fun c => V.agg c.v).length : Int) := of_decide_eq_true c6
    rw [hcl] at c6
    cases r with
    | nil => exact absurd hdl (by simp only [List.length_nil]; omega)
    | cons c r =>
    have hget : (rows.map fun c => V.agg c.v)[((d.length : Nat) : Int).toNat]? = some (.agg c.v) := by rw [Int.toNat_natCast, hd]; exact map_get _ d c r
    have hm : c ∈ rows := by rw [hd]; simp
    simp only [List.length_cons] at hdl
    refine ⟨[], fun _ => false, ?_⟩
    refine ⟨.agg c.v, ⟨by show (0:Int) ≤ (d.length : Int); omega, hget⟩, ?_⟩
    refine (c_r07 W0 c (hn c hm) _).mono ?_
    rintro _ h ⟨rfl, rfl⟩
    refine ⟨.agg c.v, fun hg => ⟨by show (0:Int) ≤ (d.length : Int); omega, hget⟩, ?_⟩
    refine ⟨Nat.zero_le _, ?_⟩
    refine ⟨fun hg => by show inI64 ((d.length : Int) - 1); unfold inI64; omega, ?_⟩
    refine ⟨.agg (prevR d c).v, fun hg => ?_, ?_⟩
    · have hg' : (bif checkRow c then decide ((0:Int) < (d.length : Int)) else false) = true := by
        revert hg; cases checkRow c <;> cases decide ((0:Int) < (d.length : Int)) <;> decide
      have hpos : 0 < d.length := by
        rw [dec_pos] at hg'
        revert hg'
        cases checkRow c
        · intro h; cases h
        · exact of_decide_eq_true
      refine ⟨by show (0:Int) ≤ (d.length : Int) - 1; omega, ?_⟩
      show (rows.map fun c => V.agg c.v)[((d.length : Int) - 1).toNat]? = _
      rw [hd]; exact prevR_get d c r _ rfl hpos
    refine ⟨Nat.zero_le _, ?_⟩
    have hor := prevR_ord' d c
    have conv : ∀ x : Bool, x = (bif !checkRow c then true else (bif decide ((0:Int) < (d.length : Int)) then (Op.bytesLess c.key.data.toList (prevR d c).key.data.toList || decide (c.key = (prevR d c).key)) else false)) →
        x = !(checkRow c && (match lastR d with | some n => strLess n c.key | none => true)) := by
      rintro x rfl
      rw [hor]
      cases checkRow c <;> cases (match lastR d with | some n => strLess n c.key | none => true) <;> rfl
    have hst : rowsOK (lastR d) (c :: r) = (checkRow c && (match lastR d with | some n => strLess n c.key | none => true) && rowsOK (some c.key) r) := rfl
    refine ⟨fun c8 => ?_, fun c8 => ?_⟩
    · replace c8 := (conv _ rfl).symm.trans c8
      refine ⟨kk false ?_, rfl⟩
      rw [hsp2, hacc, hst, not_t c8]; rfl
    · replace c8 := (conv _ rfl).symm.trans c8
      replace c8 := not_f c8
      refine ⟨by show inI64 ((d.length : Int) + 1); unfold inI64; omega, ?_⟩
      refine ⟨r.length, by show r.length < r.length + 1; omega, d ++ [c], r, _, rfl, rfl, rfl, rfl, by rw [hd]; simp, by simp, ?_⟩
      rw [hacc, hst, c8]; simp [lastR]
  · replace c6 : ¬ (d.length : Int) < ((rows.map fun c => V.agg c.v).length : Int) := of_decide_eq_false c6
    rw [hcl] at c6
    cases r with
    | cons c r => exact absurd hdl (by simp only [List.length_cons]; omega)
    | nil =>
    refine ⟨kk true ?_, rfl⟩
    rw [hsp2, hacc]; rfl

theorem c_rCheckMuts (l : List Mut) (hl : l.length ≤ 2 ^ 60) (hs : ∀ m ∈ l, m.sized) (most : Nat) (h : H) :
    ACalls Tryz.prog W0 35 [.v (.sl 4 (l.map fun m => .agg m.v)), .v (V.i most)] h fun r h' => r = .v (V.b (l.all (fun x => isName x.table && checkPart x.part) && decide (l.length ≤ most))) ∧ h' = h := by
  have hcl : (l.map fun m => V.agg m.v).length = l.length := List.length_map ..
  have kk : ∀ b : Bool, (l.all (fun x => isName x.table && checkPart x.part) && decide (l.length ≤ most)) = b → A.v (V.b b) = A.v (V.b (l.all (fun x => isName x.table && checkPart x.part) && decide (l.length ≤ most))) := by rintro b rfl; rfl
  refine ACalls.of (C := CO [] fun _ => ([], [], 0)) (cOkO _ _) hP (fn := Tryz.f35) (by kernel_rfl) (by kernel_rfl) ?_
  refine ⟨0, [0, 1, 5], 0, fun m xs lo h2 => lo = [] ∧ ∃ (d r : List Mut) (k : Int), xs = [.v (.sl 4 (l.map fun m => .agg m.v)), .v (V.i most), .v (V.i k)] ∧ h2 = h ∧ m = r.length ∧ l = d ++ r ∧ k = d.length ∧ d.all (fun x => isName x.table && checkPart x.part) = true,
    ⟨l.length, rfl, [], l, _, rfl, rfl, rfl, rfl, rfl, rfl⟩, ?_⟩
  rintro m xs lo h2 ⟨rfl, d, r, k, rfl, rfl, rfl, hd, rfl, hany⟩
  have hdl : l.length = d.length + r.length := by rw [hd, List.length_append]
  refine ⟨fun c6 => ?_, fun c6 => ?_⟩
  · replace c6 : (d.length : Int) < ((l.map fun m => V.agg m.v).length : Int) := of_decide_eq_true c6
    rw [hcl] at c6
    cases r with
    | nil => exact absurd hdl (by simp only [List.length_nil]; omega)
    | cons c r =>
    have hget : (l.map fun m => V.agg m.v)[((d.length : Nat) : Int).toNat]? = some (.agg c.v) := by rw [Int.toNat_natCast, hd]; exact map_get _ d c r
    simp only [List.length_cons] at hdl
    have hm : c ∈ l := by rw [hd]; simp
    refine ⟨.agg c.v, ⟨by show (0:Int) ≤ (d.length : Int); omega, hget⟩, ?_⟩
    refine ⟨Nat.zero_le _, ?_⟩
    refine (c_rName W0 c.table (hs c hm).1 _).mono ?_
    rintro _ h ⟨rfl, rfl⟩
    refine ⟨.agg c.v, fun hg => ⟨by show (0:Int) ≤ (d.length : Int); omega, hget⟩, ?_⟩
    refine ⟨Nat.le_of_ble_eq_true rfl, ?_⟩
    refine ⟨rfl, V.b (checkPart c.part), fun hg => c_r08 W0 c.part (hs c hm).2 _, ?_⟩
    refine ⟨fun c3 => ?_, fun c3 => ?_⟩
    · replace c3 : (isName c.table && checkPart c.part) = false := by
        have c3 : (bif !isName c.table then true else !checkPart c.part) = true := c3
        revert c3; cases isName c.table <;> cases checkPart c.part <;> decide
      refine ⟨kk false ?_, rfl⟩
      rw [hd, List.all_append, List.all_cons, c3]; simp
    · replace c3 : (isName c.table && checkPart c.part) = true := by
        have c3 : (bif !isName c.table then true else !checkPart c.part) = false := c3
        revert c3; cases isName c.table <;> cases checkPart c.part <;> decide
      refine ⟨by show inI64 ((d.length : Int) + 1); unfold inI64; omega, ?_⟩
      refine ⟨r.length, by show r.length < r.length + 1; omega, rfl, d ++ [c], r, _, rfl, rfl, rfl, by rw [hd]; simp, by simp, ?_⟩
      rw [List.all_append, hany, List.all_cons, c3]; rfl
  · replace c6 : ¬ (d.length : Int) < ((l.map fun m => V.agg m.v).length : Int) := of_decide_eq_false c6
    rw [hcl] at c6
    cases r with
    | cons c r => exact absurd hdl (by simp only [List.length_cons]; omega)
    | nil =>
    refine ⟨kk _ ?_, rfl⟩
    rw [List.append_nil] at hd
    subst hd
    show _ = decide (((l.map fun m => V.agg m.v).length : Int) ≤ (most : Int))
    rw [hany, hcl]
    by_cases hh : l.length ≤ most
    · rw [decide_eq_true hh, decide_eq_true (by omega)]; rfl
    · rw [decide_eq_false hh, decide_eq_false (by omega)]; rfl

theorem c_r21Check (m : Msg) (hm : m.sized) (hml : m.muts.length ≤ 2 ^ 60) (h : H) : ACalls Tryz.prog W0 12 [.v (.agg m.v)] h fun r h' => r = .v (V.b (checkMsg m)) ∧ h' = h := by
  obtain ⟨kind, frm, to, id, muts, keys, num⟩ := m
  replace hm : ∀ x ∈ muts, x.sized := hm
  obtain ⟨b1, hb1⟩ : ∃ b1, b1 = keys.all (fun s => decide (s.size ≤ 100)) := ⟨_, rfl⟩
  obtain ⟨b2, hb2⟩ : ∃ b2, b2 = muts.all (fun x => isName x.table && checkPart x.part) := ⟨_, rfl⟩
  have hsp : checkMsg ⟨kind, frm, to, id, muts, keys, num⟩ = (decide (1 ≤ kind) && decide (kind ≤ 8) && inB frm 4 && inB to 4 && inB id 1099511627776 && inB num 1099511627776 && decide (muts.length ≤ 100) && decide (keys.length ≤ 40) && b1 && b2) := by rw [hb1, hb2]; rfl
  have hsp2 : checkMsg ⟨kind, frm, to, id, muts, keys, num⟩ = ((decide (1 ≤ kind) && decide (kind ≤ 8) && inB frm 4 && inB to 4 && inB id 1099511627776 && inB num 1099511627776 && decide (keys.length ≤ 40)) && (b1 && (b2 && decide (muts.length ≤ 100)))) := by
    rw [hsp]
    cases decide (1 ≤ kind) <;> cases decide (kind ≤ 8) <;> cases inB frm 4 <;> cases inB to 4 <;> cases inB id 1099511627776 <;> cases inB num 1099511627776 <;> cases decide (muts.length ≤ 100) <;> cases decide (keys.length ≤ 40) <;> cases b1 <;> cases b2 <;> rfl
  have hc2 : (keys.map V.s).length = keys.length := List.length_map ..
  have cm := c_rCheckMuts W0 muts hml hm 100
  rw [← hb2] at cm
  generalize checkMsg ⟨kind, frm, to, id, muts, keys, num⟩ = R at hsp2 ⊢
  subst hsp2
  refine ACalls.of (C := CO [] fun _ => ([], [], 0)) (cOkO _ _) hP (fn := Tryz.f12) (by kernel_rfl) (by kernel_rfl) ?_
  refine ⟨rfl, V.b (inB frm 4), fun hg => c_r21i W0 frm 4 _, ?_⟩
  refine ⟨rfl, V.b (inB to 4), fun hg => c_r21i W0 to 4 _, ?_⟩
  refine ⟨rfl, V.b (inB id 1099511627776), fun hg => c_r21i W0 id 1099511627776 _, ?_⟩
  refine ⟨rfl, V.b (inB num 1099511627776), fun hg => c_r21i W0 num 1099511627776 _, ?_⟩
  have conv : ∀ x : Bool, x = (bif (bif (bif (bif (bif (bif decide (kind < 1) then true else decide (8 < kind)) then true else !inB frm 4) then true else !inB to 4) then true else !inB id 1099511627776) then true else !inB num 1099511627776) then true else decide ((40:Int) < ((keys.map V.s).length : Int))) →
      x = !(decide (1 ≤ kind) && decide (kind ≤ 8) && inB frm 4 && inB to 4 && inB id 1099511627776 && inB num 1099511627776 && decide (keys.length ≤ 40)) := by
    rintro x rfl
    have e1 : decide (kind < 1) = !decide (1 ≤ kind) := by
      by_cases hh : 1 ≤ kind
      · rw [decide_eq_true hh, decide_eq_false (by omega)]; rfl
      · rw [decide_eq_false hh, decide_eq_true (by omega)]; rfl
    have e2 : decide (8 < kind) = !decide (kind ≤ 8) := by
      by_cases hh : kind ≤ 8
      · rw [decide_eq_true hh, decide_eq_false (by omega)]; rfl
      · rw [decide_eq_false hh, decide_eq_true (by omega)]; rfl
    rw [hc2, dec_lt keys.length 40 40 rfl, e1, e2]
    cases decide (1 ≤ kind) <;> cases decide (kind ≤ 8) <;> cases inB frm 4 <;> cases inB to 4 <;> cases inB id 1099511627776 <;> cases inB num 1099511627776 <;> cases decide (keys.length ≤ 40) <;> rfl
  refine ⟨fun c5 => ?_, fun c5 => ?_⟩
  · replace c5 := not_t ((conv _ rfl).symm.trans c5)
    rw [c5]
    exact ⟨rfl, rfl⟩
  replace c5 := not_f ((conv _ rfl).symm.trans c5)
  have c6 := c5
  simp only [Bool.and_eq_true, decide_eq_true_eq] at c6
  have hkl : keys.length ≤ 40 := c6.2
  rw [c5]
  refine ⟨0, [1, 3], 1, fun m xs lo h2 => ∃ (d r : List Str) (k : Int), xs = [.lp 0 0, .v (V.i k)] ∧
      lo = [.cells [.v (V.i kind), .v (V.i frm), .v (V.i to), .v (V.i id), .v (.sl 4 (muts.map fun x => .agg x.v)), .v (.sl 1 (keys.map V.s)), .v (V.i num)]] ∧ h2 = h ∧ m = r.length ∧ keys = d ++ r ∧ k = d.length ∧ d.all (fun s => decide (s.size ≤ 100)) = true,
    ⟨keys.length, [], keys, _, rfl, rfl, rfl, rfl, rfl, rfl, rfl⟩, ?_⟩
  rintro m xs lo h2 ⟨d, r, k, rfl, rfl, rfl, rfl, hd, rfl, hany⟩
  have hdl : keys.length = d.length + r.length := by rw [hd, List.length_append]
  refine ⟨fun c7 => ?_, fun c7 => ?_⟩
  · replace c7 : (d.length : Int) < ((keys.map V.s).length : Int) := of_decide_eq_true c7
    rw [hc2] at c7
    cases r with
    | nil => exact absurd hdl (by simp only [List.length_nil]; omega)
    | cons c r =>
    have hget : (keys.map V.s)[((d.length : Nat) : Int).toNat]? = some (V.s c) := by rw [Int.toNat_natCast, hd]; exact map_get _ d c r
    simp only [List.length_cons] at hdl
    refine ⟨V.s c, ⟨by show (0:Int) ≤ (d.length : Int); omega, hget⟩, ?_⟩
    refine ⟨fun c8 => ?_, fun c8 => ?_⟩
    · replace c8 : decide ((100:Int) < (c.size : Int)) = true := c8
      have hb : b1 = false := by
        rw [hb1, hd, List.all_append, List.all_cons]
        rw [dec_lt c.size 100 100 rfl] at c8
        rw [not_t c8]; simp
      rw [hb]
      exact ⟨rfl, rfl⟩
    · replace c8 : decide ((100:Int) < (c.size : Int)) = false := c8
      rw [dec_lt c.size 100 100 rfl] at c8
      refine ⟨by show inI64 ((d.length : Int) + 1); unfold inI64; omega, ?_⟩
      refine ⟨r.length, by show r.length < r.length + 1; omega, d ++ [c], r, _, rfl, rfl, rfl, rfl, by rw [hd]; simp, by simp, ?_⟩
      rw [List.all_append, hany, List.all_cons, not_f c8]; rfl
  · replace c7 : ¬ (d.length : Int) < ((keys.map V.s).length : Int) := of_decide_eq_false c7
    rw [hc2] at c7
    cases r with
    | cons c r => exact absurd hdl (by simp only [List.length_cons]; omega)
    | nil =>
    have hb : b1 = true := by rw [hb1, hd, List.append_nil, hany]
    rw [hb]
    refine (cm _).mono ?_
    rintro _ h ⟨rfl, rfl⟩
    refine ⟨?_, rfl⟩
    show A.v (V.b (b2 && decide (muts.length ≤ 100))) = A.v (V.b (true && (true && (b2 && decide (muts.length ≤ 100)))))
    simp only [Bool.true_and]
end Go.AI

namespace Go.AI
open Go.Proofs Go
variable (W0 : World)
set_option maxRecDepth 20000
set_option maxHeartbeats 2000000

/-- A text of these bytes. -/
abbrev mkS (l : List UInt8) : Str := ⟨l.toArray⟩
theorem mkS_append (a b : List UInt8) : mkS a ++ mkS b = mkS (a ++ b) := by
  apply ByteArray.ext; simp [mkS]
theorem mkS_size (a : List UInt8) : (mkS a).size = a.length := by simp [ByteArray.size]
theorem mkS_self (s : Str) : mkS s.data.toList = s := by apply ByteArray.ext; simp
theorem nby_step {v : Nat} (h : 0 < v) : nby v = nby (v / 256) + 1 := by
  unfold nby
  rcases Nat.lt_or_ge v 256 with h1 | h1
  · have e : v / 256 = 0 := by omega
    have h2 := blen_le (v := v) (k := 8) (by omega)
    have h3 : 1 ≤ blen v := by unfold blen; rw [if_neg (by omega)]; omega
    have h4 : blen (v / 256) = 0 := by rw [e]; rfl
    rw [h4]; omega
  · have := blen_shift (v := v) (k := 8) (by omega)
    rw [show v / 2 ^ 8 = v / 256 from rfl] at this
    omega

theorem c_r02Num (v : Nat) (hv : v < 2 ^ 64) (h : H) : ACalls Tryz.prog W0 37 [.v (.lit (.int .u64 v))] h fun r h' => r = .v (V.s (mkS (numB v))) ∧ h' = h := by
  have hn8 := nby_le hv
  refine ACalls.of (C := CO [] fun _ => ([], [], 0)) (cOkO _ _) hP (fn := Tryz.f37) (by kernel_rfl) (by kernel_rfl) ?_
  refine ⟨0, [0, 3], 0, fun m xs l h2 => ∃ (j x : Nat) (q : Int) (acc : Str), xs = [.v (.lit (.int .u64 q)), .v (V.s acc)] ∧ l = [] ∧ h2 = h ∧ q = x ∧ x = v / 256 ^ j ∧ acc = mkS (beB v j) ∧ m = nby x ∧ j + m = nby v,
    ⟨nby v, 0, v, _, ⟨#[]⟩, rfl, rfl, rfl, rfl, by simp, rfl, rfl, by show 0 + nby v = nby v; omega⟩, ?_⟩
  rintro m xs l h2 ⟨j, x, q, acc, rfl, rfl, rfl, rfl, hx, rfl, rfl, hj⟩
  have hbl := beB_length v j
  refine ⟨fun c1 => ?_, fun c1 => ?_⟩
  · replace c1 : 0 < x := by
      have c1 : (0 : Int) < (x : Int) := of_decide_eq_true c1
      omega
    have hst := nby_step c1
    refine ⟨((UInt8.ofNat x).toNat : Int), by rw [wrapU8_mod]; simp, ?_⟩
    refine ⟨[UInt8.ofNat x], rfl, ?_⟩
    refine ⟨by show (mkS [UInt8.ofNat x]).size + (mkS (beB v j)).size ≤ 9223372036854775807; rw [mkS_size, mkS_size, hbl]; show 1 + j ≤ _; omega, ?_⟩
    have hq : Int.tdiv (x : Int) 256 = ((x / 256 : Nat) : Int) := by rw [Int.tdiv_eq_ediv_of_nonneg (by omega)]; omega
    have hx64 : x < 2 ^ 64 := by rw [hx]; exact Nat.lt_of_le_of_lt (Nat.div_le_self _ _) hv
    refine ⟨⟨by show (256:Int) ≠ 0; decide, by show IntKind.u64.wrap (Int.tdiv (x : Int) 256) = _; rw [hq]; exact wrapU64 (by omega) (by omega)⟩, ?_⟩
    refine ⟨nby (x / 256), by omega, j + 1, x / 256, _, _, rfl, rfl, rfl, hq, ?_, ?_, rfl, by omega⟩
    · rw [hx, Nat.div_div_eq_div_mul, Nat.pow_succ]
    · show mkS [UInt8.ofNat x] ++ mkS (beB v j) = _
      rw [mkS_append, hx]; rfl
  · replace c1 : x = 0 := by
      have c1 : ¬ (0 : Int) < (x : Int) := of_decide_eq_false c1
      omega
    have h0 : nby x = 0 := by rw [c1]; rfl
    have hj2 : j = nby v := by omega
    have hsz : (mkS (beB v j)).size = nby v := by rw [mkS_size, hbl, hj2]
    refine ⟨((UInt8.ofNat (nby v)).toNat : Int), ?_, ?_⟩
    · show IntKind.u8.wrap ((mkS (beB v j)).size : Int) = _
      rw [hsz, wrapU8_mod]; simp
    refine ⟨[UInt8.ofNat (nby v)], rfl, ?_⟩
    refine ⟨by show (mkS [UInt8.ofNat (nby v)]).size + (mkS (beB v j)).size ≤ 9223372036854775807; rw [hsz, mkS_size]; show 1 + nby v ≤ _; omega, ?_⟩
    refine ⟨?_, rfl⟩
    show A.v (V.s (mkS [UInt8.ofNat (nby v)] ++ mkS (beB v j))) = _
    rw [mkS_append, hj2]; rfl

theorem c_r09Num (v : Int) (h0 : 0 ≤ v) (h1 : v < 2 ^ 63) (h : H) : ACalls Tryz.prog W0 15 [.v (V.i v)] h fun r h' => r = .v (V.s (mkS (numB v.toNat))) ∧ h' = h := by
  refine ACalls.of (C := CO [] fun _ => ([], [], 0)) (cOkO _ _) hP (fn := Tryz.f15) (by kernel_rfl) (by kernel_rfl) ?_
  refine ⟨(v.toNat : Int), by show IntKind.u64.wrap v = _; rw [wrapU64 h0 (by omega)]; omega, ?_⟩
  refine (c_r02Num W0 v.toNat (by omega) _).mono ?_
  rintro _ _ ⟨rfl, rfl⟩
  exact ⟨rfl, rfl⟩

theorem c_r09Text (s : Str) (hs : s.size ≤ 2 ^ 45) (h : H) : ACalls Tryz.prog W0 17 [.v (V.s s)] h fun r h' => r = .v (V.s (mkS (encText s))) ∧ h' = h := by
  have hn := nby_le (v := s.size) (by omega)
  have hl := numB_length s.size
  refine ACalls.of (C := CO [] fun _ => ([], [], 0)) (cOkO _ _) hP (fn := Tryz.f17) (by kernel_rfl) (by kernel_rfl) ?_
  refine (c_r09Num W0 (s.size : Int) (by omega) (by omega) _).mono ?_
  rintro _ _ ⟨rfl, rfl⟩
  refine ⟨by show (mkS (numB s.size)).size + s.size ≤ 9223372036854775807; rw [mkS_size]; omega, ?_⟩
  refine ⟨?_, rfl⟩
  show A.v (V.s (mkS (numB s.size) ++ s)) = _
  rw [← mkS_self s, mkS_append]; rfl

theorem numB_short {v : Nat} (h : v < 2 ^ 64) : (numB v).length ≤ 9 := by rw [numB_length]; have := nby_le h; omega
theorem encText_short {s : Str} (h : s.size ≤ 2 ^ 45) : (encText s).length ≤ 9 + 2 ^ 45 := by
  have := numB_short (v := s.size) (by omega)
  simp only [encText, List.length_append, str_len]; omega
theorem checkCell_size {c : Cell} (h : checkCell c = true) : c.val.size ≤ 2 ^ 45 := by
  unfold checkCell at h
  split at h
  · split at h
    · simp only [Bool.and_eq_true, decide_eq_true_eq] at h
      rw [h.1.1]; decide
    · split at h
      · simp only [Bool.and_eq_true, decide_eq_true_eq] at h
        rw [h.1]; decide
      · have := of_decide_eq_true h; omega
  · cases h

theorem c_r09cell (c : Cell) (hc : c.pos) (hs : c.val.size ≤ 2 ^ 45) (h : H) :
    ACalls Tryz.prog W0 50 [.v (.agg c.v)] h fun r h' => r = .v (V.s (mkS (encCell c))) ∧ h' = h := by
  obtain ⟨val, dead, at_, end_⟩ := c
  obtain ⟨⟨ha0, ha1⟩, ⟨he0, he1⟩⟩ := hc
  replace ha0 : 0 ≤ at_ := ha0
  replace ha1 : at_ ≤ 1099511627776 := ha1
  replace he0 : 0 ≤ end_ := he0
  replace he1 : end_ ≤ 1099511627776 := he1
  replace hs : val.size ≤ 2 ^ 45 := hs
  have key : ∀ e : Str, e = mkS (encCell ⟨val, dead, at_, end_⟩) → A.v (V.s e) = A.v (V.s (mkS (encCell ⟨val, dead, at_, end_⟩))) := by rintro e rfl; rfl
  have n1 := numB_short (v := at_.toNat) (by omega)
  have n2 := numB_short (v := end_.toNat) (by omega)
  have n3 := encText_short hs
  refine ACalls.of (C := CO [] fun i => match i with | 5 => ([0, 1, 4, 5, 8, 9, 2, 3, 6, 7, 10, 11, 12], [], 1) | _ => ([], [], 0)) (cOkO _ _) hP (fn := Tryz.f50) (by kernel_rfl) (by kernel_rfl) ?_
  refine ⟨fun c2 => ?_, fun c2 => ?_⟩
  · replace c2 : at_ = 0 := by simpa using c2
    refine (c_r09Num W0 0 (by omega) (by omega) _).mono ?_
    rintro _ _ ⟨rfl, rfl⟩
    exact ⟨key _ (by simp [encCell, c2]), rfl⟩
  replace c2 : ¬ (at_ = 0) := by simpa using c2
  refine ⟨fun c3 => ?_, fun c3 => ?_⟩
  · replace c3 : dead = true := c3
    refine (c_r09Num W0 at_ ha0 (by omega) _).mono ?_
    rintro _ _ ⟨rfl, rfl⟩
    refine ⟨by show (mkS (numB at_.toNat)).size + (mkS [1]).size ≤ 9223372036854775807; rw [mkS_size, mkS_size]; show _ + 1 ≤ _; omega, ?_⟩
    refine ⟨key _ ?_, rfl⟩
    show mkS (numB at_.toNat) ++ mkS [1] = _
    rw [mkS_append]; simp [encCell, c2, c3]
  replace c3 : dead = false := c3
  refine ⟨[], fun _ => false, ?_⟩
  refine (c_r09Num W0 at_ ha0 (by omega) _).mono ?_
  rintro _ _ ⟨rfl, rfl⟩
  refine ⟨by show (mkS (numB at_.toNat)).size + (mkS [0]).size ≤ 9223372036854775807; rw [mkS_size, mkS_size]; show _ + 1 ≤ _; omega, ?_⟩
  refine (c_r09Text W0 val hs _).mono ?_
  rintro _ _ ⟨rfl, rfl⟩
  refine ⟨by show (mkS (numB at_.toNat) ++ mkS [0]).size + (mkS (encText val)).size ≤ 9223372036854775807; rw [mkS_append, mkS_size, mkS_size, List.length_append]; show _ + 1 + _ ≤ _; omega, ?_⟩
  refine (c_r09Num W0 end_ he0 (by omega) _).mono ?_
  rintro _ _ ⟨rfl, rfl⟩
  refine ⟨by show (mkS (numB at_.toNat) ++ mkS [0] ++ mkS (encText val)).size + (mkS (numB end_.toNat)).size ≤ 9223372036854775807; rw [mkS_append, mkS_append, mkS_size, mkS_size, List.length_append, List.length_append]; show _ + 1 + _ + _ ≤ _; omega, ?_⟩
  refine ⟨key _ ?_, rfl⟩
  show mkS (numB at_.toNat) ++ mkS [0] ++ mkS (encText val) ++ mkS (numB end_.toNat) = _
  rw [mkS_append, mkS_append, mkS_append]; simp [encCell, c2, c3]

/-- Not too long. -/
def Row.short (r : Row) : Prop := r.key.size ≤ 2 ^ 45 ∧ r.live.val.size ≤ 2 ^ 45 ∧ ∀ c ∈ r.cols, c.name.size ≤ 2 ^ 45 ∧ c.cell.val.size ≤ 2 ^ 45
def Part.short (p : Part) : Prop := p.key.size ≤ 2 ^ 45 ∧ ∀ r ∈ p.rows, r.short

theorem c_r09bytes (p : Part) (hr : p.pos) (hq : p.short) (hb : (encPart p).length ≤ 2 ^ 45) (hk : p.rows.length ≤ 2 ^ 45) (hk2 : ∀ r ∈ p.rows, r.cols.length ≤ 2 ^ 45) (h : H) :
    ACalls Tryz.prog W0 38 [.v (.agg p.v)] h fun x h' => x = .v (V.s (mkS (encPart p))) ∧ h' = h := by
  obtain ⟨key, gone, rows⟩ := p
  obtain ⟨⟨hg0, hg1⟩, hc⟩ := hr
  replace hg0 : 0 ≤ gone := hg0
  replace hg1 : gone ≤ 1099511627776 := hg1
  replace hc : ∀ c ∈ rows, c.pos := hc
  obtain ⟨hq1, hq2⟩ := hq
  replace hq1 : key.size ≤ 2 ^ 45 := hq1
  replace hq2 : ∀ r ∈ rows, r.short := hq2
  replace hk : rows.length ≤ 2 ^ 45 := hk
  replace hk2 : ∀ r ∈ rows, r.cols.length ≤ 2 ^ 45 := hk2
  have henc : encPart ⟨key, gone, rows⟩ = encText key ++ numB gone.toNat ++ numB rows.length ++ rows.flatMap encRow := by simp [encPart]
  have hcl : (rows.map fun c => V.agg c.v).length = rows.length := List.length_map ..
  have kk : ∀ e : Str, e = mkS (encPart ⟨key, gone, rows⟩) → A.v (V.s e) = A.v (V.s (mkS (encPart ⟨key, gone, rows⟩))) := by rintro e rfl; rfl
  rw [henc] at hb
  have hlen := hb
  simp only [List.length_append] at hlen
  refine ACalls.of (C := CO [] fun i => match i with | 1 => ([0, 1, 3, 4, 7, 8, 9, 2, 5, 6, 10, 11, 12], [], 1) | 6 => ([0, 1, 2, 5, 6, 9, 10, 13, 14, 17, 18, 19, 3, 4, 7, 8, 11, 12, 15, 16, 20, 21, 22], [], 1) | 10 => ([0, 1, 2, 3, 4, 5, 6, 9, 10, 11, 12, 13, 14, 7, 8, 15, 16, 17], [], 1) | _ => ([], [], 0)) (cOkO _ _) hP (fn := Tryz.f38) (by kernel_rfl) (by kernel_rfl) ?_
  refine ⟨[], fun _ => false, ?_⟩
  refine (c_r09Text W0 key hq1 _).mono ?_
  rintro _ _ ⟨rfl, rfl⟩
  refine (c_r09Num W0 gone hg0 (by omega) _).mono ?_
  rintro _ _ ⟨rfl, rfl⟩
  refine ⟨by show (mkS (encText key)).size + (mkS (numB gone.toNat)).size ≤ 9223372036854775807; simp only [mkS_append, mkS_size, List.length_append]; omega, ?_⟩
  refine (c_r09Num W0 ((rows.map fun c => V.agg c.v).length : Int) (by omega) (by omega) _).mono ?_
  rintro _ _ ⟨rfl, rfl⟩
  have hcl2 : ((rows.map fun c => V.agg c.v).length : Int).toNat = rows.length := by omega
  rw [hcl2]
  refine ⟨by show (mkS (encText key) ++ mkS (numB gone.toNat)).size + (mkS (numB rows.length)).size ≤ 9223372036854775807; simp only [mkS_append, mkS_size, List.length_append]; omega, ?_⟩
  refine ⟨0, [1, 3, 4], 1, fun m xs l h2 => ∃ (d r : List Row) (k : Int) (acc : Str) (ab : List UInt8), xs = [.lp 0 0, .v (V.s acc), .v (V.i k)] ∧
      l = [.cells [.v (V.s key), .v (V.i gone), .v (.sl 8 (rows.map fun c => .agg c.v))]] ∧ h2 = h ∧ m = r.length ∧ rows = d ++ r ∧ k = d.length ∧ acc = mkS ab ∧
      ab ++ r.flatMap encRow = encPart ⟨key, gone, rows⟩,
    ⟨rows.length, [], rows, _, _, encText key ++ numB gone.toNat ++ numB rows.length, rfl, rfl, rfl, rfl, rfl, rfl, by show mkS (encText key) ++ mkS (numB gone.toNat) ++ mkS (numB rows.length) = _; simp only [mkS_append], henc.symm⟩, ?_⟩
  rintro m xs l h2 ⟨d, r, k, acc, ab, rfl, rfl, rfl, rfl, hd, rfl, rfl, hab⟩
  have hdl : rows.length = d.length + r.length := by rw [hd, List.length_append]
  refine ⟨fun c6 => ?_, fun c6 => ?_⟩
  · replace c6 : (d.length : Int) < ((rows.map fun c => V.agg c.v).length : Int) := of_decide_eq_true c6
    rw [hcl] at c6
    cases r with
    | nil => exact absurd hdl (by simp only [List.length_nil]; omega)
    | cons c r =>
    have hget : (rows.map fun c => V.agg c.v)[((d.length : Nat) : Int).toNat]? = some (.agg c.v) := by rw [Int.toNat_natCast, hd]; exact map_get _ d c r
    have hm : c ∈ rows := by rw [hd]; simp
    have hlt := congrArg List.length hab
    rw [henc] at hlt
    simp only [List.length_append, List.flatMap_cons] at hlt
    simp only [List.length_cons] at hdl
    obtain ⟨hp1, hp2, hp3, hp4⟩ := hc c hm
    obtain ⟨hs1, hs2, hs3⟩ := hq2 c hm
    have hk3 := hk2 c hm
    obtain ⟨ckey, clive, cgone, cshade, ccols⟩ := c
    replace hp1 : clive.pos := hp1
    replace hp2 : 0 ≤ cgone ∧ cgone ≤ 1099511627776 := hp2
    replace hp3 : 0 ≤ cshade ∧ cshade ≤ 1099511627776 := hp3
    replace hp4 : ∀ c ∈ ccols, c.cell.pos := hp4
    replace hs1 : ckey.size ≤ 2 ^ 45 := hs1
    replace hs2 : clive.val.size ≤ 2 ^ 45 := hs2
    replace hs3 : ∀ c ∈ ccols, c.name.size ≤ 2 ^ 45 ∧ c.cell.val.size ≤ 2 ^ 45 := hs3
    replace hk3 : ccols.length ≤ 2 ^ 45 := hk3
    have hce : encRow ⟨ckey, clive, cgone, cshade, ccols⟩ = encText ckey ++ encCell clive ++ numB cgone.toNat ++ numB cshade.toNat ++ numB ccols.length ++ ccols.flatMap encCol := rfl
    have hcel := congrArg List.length hce
    simp only [List.length_append] at hcel
    have hccl : (ccols.map fun c => V.agg c.v).length = ccols.length := List.length_map ..
    refine ⟨.agg (Row.v ⟨ckey, clive, cgone, cshade, ccols⟩), ⟨by show (0:Int) ≤ (d.length : Int); omega, hget⟩, ?_⟩
    refine ⟨[], fun _ => false, ?_⟩
    refine (c_r09Text W0 ckey hs1 _).mono ?_
    rintro _ _ ⟨rfl, rfl⟩
    refine ⟨by show (mkS ab).size + (mkS (encText ckey)).size ≤ 9223372036854775807; simp only [mkS_append, mkS_size, List.length_append]; omega, ?_⟩
    refine (c_r09cell W0 clive hp1 hs2 _).mono ?_
    rintro _ _ ⟨rfl, rfl⟩
    refine ⟨by show (mkS ab ++ mkS (encText ckey)).size + (mkS (encCell clive)).size ≤ 9223372036854775807; simp only [mkS_append, mkS_size, List.length_append]; omega, ?_⟩
    refine (c_r09Num W0 cgone hp2.1 (by omega) _).mono ?_
    rintro _ _ ⟨rfl, rfl⟩
    refine ⟨by show (mkS ab ++ mkS (encText ckey) ++ mkS (encCell clive)).size + (mkS (numB cgone.toNat)).size ≤ 9223372036854775807; simp only [mkS_append, mkS_size, List.length_append]; omega, ?_⟩
    refine (c_r09Num W0 cshade hp3.1 (by omega) _).mono ?_
    rintro _ _ ⟨rfl, rfl⟩
    refine ⟨by show (mkS ab ++ mkS (encText ckey) ++ mkS (encCell clive) ++ mkS (numB cgone.toNat)).size + (mkS (numB cshade.toNat)).size ≤ 9223372036854775807; simp only [mkS_append, mkS_size, List.length_append]; omega, ?_⟩
    refine (c_r09Num W0 ((ccols.map fun c => V.agg c.v).length : Int) (by omega) (by omega) _).mono ?_
    rintro _ hh ⟨rfl, rfl⟩
    have hcl3 : ((ccols.map fun c => V.agg c.v).length : Int).toNat = ccols.length := by omega
    rw [hcl3]
    refine ⟨by show (mkS ab ++ mkS (encText ckey) ++ mkS (encCell clive) ++ mkS (numB cgone.toNat) ++ mkS (numB cshade.toNat)).size + (mkS (numB ccols.length)).size ≤ 9223372036854775807; simp only [mkS_append, mkS_size, List.length_append]; omega, ?_⟩
    refine ⟨0, [1, 3, 4, 5, 6], 2, fun m xs l h3 => ∃ (d2 r2 : List Col) (k2 : Int) (acc : Str) (ab2 : List UInt8), xs = [.lp 0 0, .v (V.s acc), .v (V.i d.length), .lp 1 0, .v (V.i k2)] ∧
        l = [.cells [.v (V.s key), .v (V.i gone), .v (.sl 8 (rows.map fun c => .agg c.v))], .cells [.v (V.s ckey), .v (V.s clive.val), .v (V.b clive.dead), .v (V.i clive.at_), .v (V.i clive.end_), .v (V.i cgone), .v (V.i cshade), .v (.sl 5 (ccols.map fun c => .agg c.v))]] ∧ h3 = h2 ∧ m = r2.length ∧ ccols = d2 ++ r2 ∧ k2 = d2.length ∧ acc = mkS ab2 ∧
        ab2 ++ r2.flatMap encCol = ab ++ encRow ⟨ckey, clive, cgone, cshade, ccols⟩,
      ⟨ccols.length, [], ccols, _, _, ab ++ encText ckey ++ encCell clive ++ numB cgone.toNat ++ numB cshade.toNat ++ numB ccols.length, rfl, rfl, rfl, rfl, rfl, rfl, by show mkS ab ++ mkS (encText ckey) ++ mkS (encCell clive) ++ mkS (numB cgone.toNat) ++ mkS (numB cshade.toNat) ++ mkS (numB ccols.length) = _; simp only [mkS_append], by rw [hce]; simp only [List.append_assoc]⟩, ?_⟩
    rintro m xs l h3 ⟨d2, r2, k2, acc, ab2, rfl, rfl, rfl, rfl, hd2, rfl, rfl, hab2⟩
    have hdl2 : ccols.length = d2.length + r2.length := by rw [hd2, List.length_append]
    refine ⟨fun c7 => ?_, fun c7 => ?_⟩
    · replace c7 : (d2.length : Int) < ((ccols.map fun c => V.agg c.v).length : Int) := of_decide_eq_true c7
      rw [hccl] at c7
      cases r2 with
      | nil => exact absurd hdl2 (by simp only [List.length_nil]; omega)
      | cons x r2 =>
      have hget2 : (ccols.map fun c => V.agg c.v)[((d2.length : Nat) : Int).toNat]? = some (.agg x.v) := by rw [Int.toNat_natCast, hd2]; exact map_get _ d2 x r2
      have hm2 : x ∈ ccols := by rw [hd2]; simp
      have hlt2 := congrArg List.length hab2
      rw [hce] at hlt2
      simp only [List.length_append, List.flatMap_cons] at hlt2
      have hxe : (encCol x).length = (encText x.name).length + (encCell x.cell).length := by simp [encCol]
      simp only [List.length_cons] at hdl2
      refine ⟨[], fun _ => false, ?_⟩
      refine ⟨.agg x.v, ⟨by show (0:Int) ≤ (d2.length : Int); omega, hget2⟩, ?_⟩
      refine ⟨Nat.zero_le _, ?_⟩
      refine ⟨.agg x.v, ⟨by show (0:Int) ≤ (d2.length : Int); omega, hget2⟩, ?_⟩
      refine ⟨Nat.le_of_ble_eq_true rfl, ?_⟩
      refine (c_r09Text W0 x.name (hs3 x hm2).1 _).mono ?_
      rintro _ _ ⟨rfl, rfl⟩
      refine ⟨by show (mkS ab2).size + (mkS (encText x.name)).size ≤ 9223372036854775807; simp only [mkS_append, mkS_size, List.length_append]; omega, ?_⟩
      refine (c_r09cell W0 x.cell (hp4 x hm2) (hs3 x hm2).2 _).mono ?_
      rintro _ _ ⟨rfl, rfl⟩
      refine ⟨by show (mkS ab2 ++ mkS (encText x.name)).size + (mkS (encCell x.cell)).size ≤ 9223372036854775807; simp only [mkS_append, mkS_size, List.length_append]; omega, ?_⟩
      refine ⟨by show inI64 ((d2.length : Int) + 1); unfold inI64; omega, ?_⟩
      refine ⟨r2.length, by show r2.length < r2.length + 1; omega, d2 ++ [x], r2, _, _, ab2 ++ encCol x, rfl, rfl, rfl, rfl, by rw [hd2]; simp, by simp, ?_, ?_⟩
      · show mkS ab2 ++ mkS (encText x.name) ++ mkS (encCell x.cell) = _
        simp only [mkS_append, List.append_assoc]; rfl
      · rw [← hab2]; simp
    · replace c7 : ¬ (d2.length : Int) < ((ccols.map fun c => V.agg c.v).length : Int) := of_decide_eq_false c7
      rw [hccl] at c7
      cases r2 with
      | cons x r2 => exact absurd hdl2 (by simp only [List.length_cons]; omega)
      | nil =>
      refine ⟨by show inI64 ((d.length : Int) + 1); unfold inI64; omega, ?_⟩
      refine ⟨r.length, by show r.length < r.length + 1; omega, d ++ [_], r, _, _, ab2, rfl, rfl, rfl, rfl, by rw [hd]; simp; rfl, by simp, rfl, ?_⟩
      simp only [List.flatMap_nil, List.append_nil] at hab2
      rw [hab2, ← hab]; simp
  · replace c6 : ¬ (d.length : Int) < ((rows.map fun c => V.agg c.v).length : Int) := of_decide_eq_false c6
    rw [hcl] at c6
    cases r with
    | cons c r => exact absurd hdl (by simp only [List.length_cons]; omega)
    | nil =>
    simp only [List.flatMap_nil, List.append_nil] at hab
    exact ⟨kk _ (by rw [hab]), rfl⟩
end Go.AI

namespace Go.AI
open Go.Proofs Go
variable (W0 : World)
set_option maxRecDepth 20000
set_option maxHeartbeats 2000000

theorem colsOK_short : ∀ {l : List Col} {o : Option Str}, colsOK o l = true → ∀ c ∈ l, c.name.size ≤ 100 ∧ c.cell.val.size ≤ 100 := by
  intro l
  induction l with
  | nil => intro o _ c hc; cases hc
  | cons a r ih =>
    intro o h c hc
    simp only [colsOK, Bool.and_eq_true] at h
    rcases List.mem_cons.1 hc with rfl | hc
    · exact ⟨isName_size h.1.1.1.1, checkCell_val h.1.1.2⟩
    · exact ih h.2 c hc
theorem rowsOK_short : ∀ {l : List Row} {o : Option Str}, rowsOK o l = true → ∀ c ∈ l, c.short := by
  intro l
  induction l with
  | nil => intro o _ c hc; cases hc
  | cons a r ih =>
    intro o h c hc
    simp only [rowsOK, Bool.and_eq_true] at h
    rcases List.mem_cons.1 hc with rfl | hc
    · have h := h.1.1
      simp only [checkRow, Bool.and_eq_true, decide_eq_true_eq] at h
      obtain ⟨⟨⟨⟨⟨⟨⟨h1, h2⟩, h3⟩, h4⟩, h5⟩, h6⟩, h7⟩, h8⟩ := h
      refine ⟨by omega, by rw [h3]; decide, fun x hx => ?_⟩
      have := colsOK_short h8 x hx
      exact ⟨by omega, by omega⟩
    · exact ih h.2 c hc
theorem checkPart_short {p : Part} (h : checkPart p = true) : p.short := by
  simp only [checkPart, Bool.and_eq_true, decide_eq_true_eq] at h
  obtain ⟨⟨⟨⟨h1, h2⟩, h3⟩, h4⟩, h5⟩ := h
  exact ⟨by omega, rowsOK_short h5⟩
theorem c_r09bytes' (p : Part) (hc : checkPart p = true) (h : H) : ACalls Tryz.prog W0 38 [.v (.agg p.v)] h fun x h' => x = .v (V.s (mkS (encPart p))) ∧ h' = h := by
  have h1 := encPart_le hc
  have h2 := checkPart_len hc
  exact c_r09bytes W0 p (checkPart_pos hc) (checkPart_short hc) (by omega) (by omega) (fun r hr => by have := h2.2 r hr; omega) h

theorem c_r09Muts (l : List Mut) (hc : ∀ m ∈ l, isName m.table = true ∧ checkPart m.part = true) (hl : l.length ≤ 2 ^ 30) (h : H) :
    ACalls Tryz.prog W0 16 [.v (.sl 4 (l.map fun m => .agg m.v))] h fun x h' => x = .v (V.s (mkS (numB l.length ++ l.flatMap encMut))) ∧ h' = h := by
  have hcl : (l.map fun m => V.agg m.v).length = l.length := List.length_map ..
  have hcl2 : ((l.map fun m => V.agg m.v).length : Int).toNat = l.length := by omega
  have ha := flatMap_le (f := encMut) (n := 236245) (l := l) fun x hx => encMut_le (hc x hx).1 (hc x hx).2
  have hn := numB_short (v := l.length) (by omega)
  have kk : ∀ e : Str, e = mkS (numB l.length ++ l.flatMap encMut) → A.v (V.s e) = A.v (V.s (mkS (numB l.length ++ l.flatMap encMut))) := by rintro e rfl; rfl
  refine ACalls.of (C := CO [] fun i => match i with | 5 => ([0, 1, 2, 3, 4, 5, 8, 9, 10, 11, 12, 6, 7, 13, 14, 15, 16], [], 1) | _ => ([], [], 0)) (cOkO _ _) hP (fn := Tryz.f16) (by kernel_rfl) (by kernel_rfl) ?_
  refine (c_r09Num W0 ((l.map fun m => V.agg m.v).length : Int) (by omega) (by omega) _).mono ?_
  rintro _ h ⟨rfl, rfl⟩
  rw [hcl2]
  refine ⟨0, [0, 3, 4], 0, fun m xs lo h2 => ∃ (d r : List Mut) (k : Int) (acc : Str) (ab : List UInt8), xs = [.v (.sl 4 (l.map fun m => .agg m.v)), .v (V.s acc), .v (V.i k)] ∧ lo = [] ∧ h2 = h ∧ m = r.length ∧ l = d ++ r ∧ k = d.length ∧ acc = mkS ab ∧
      ab ++ r.flatMap encMut = numB l.length ++ l.flatMap encMut,
    ⟨l.length, [], l, _, _, numB l.length, rfl, rfl, rfl, rfl, rfl, rfl, rfl, rfl⟩, ?_⟩
  rintro m xs lo h2 ⟨d, r, k, acc, ab, rfl, rfl, rfl, rfl, hd, rfl, rfl, hab⟩
  have hdl : l.length = d.length + r.length := by rw [hd, List.length_append]
  refine ⟨fun c6 => ?_, fun c6 => ?_⟩
  · replace c6 : (d.length : Int) < ((l.map fun m => V.agg m.v).length : Int) := of_decide_eq_true c6
    rw [hcl] at c6
    cases r with
    | nil => exact absurd hdl (by simp only [List.length_nil]; omega)
    | cons c r =>
    have hget : (l.map fun m => V.agg m.v)[((d.length : Nat) : Int).toNat]? = some (.agg c.v) := by rw [Int.toNat_natCast, hd]; exact map_get _ d c r
    have hm : c ∈ l := by rw [hd]; simp
    have hlt := congrArg List.length hab
    simp only [List.length_append, List.flatMap_cons] at hlt
    simp only [List.length_cons] at hdl
    have hcc := hc c hm
    have hpl := encPart_le hcc.2
    have hts := isName_size hcc.1
    have hce : encMut c = encText c.table ++ encText (mkS (encPart c.part)) := rfl
    have hcel := congrArg List.length hce
    simp only [List.length_append] at hcel
    refine ⟨[], fun _ => false, ?_⟩
    refine ⟨.agg c.v, ⟨by show (0:Int) ≤ (d.length : Int); omega, hget⟩, ?_⟩
    refine ⟨Nat.zero_le _, ?_⟩
    refine ⟨.agg c.v, ⟨by show (0:Int) ≤ (d.length : Int); omega, hget⟩, ?_⟩
    refine ⟨Nat.le_of_ble_eq_true rfl, ?_⟩
    refine (c_r09Text W0 c.table (by omega) _).mono ?_
    rintro _ _ ⟨rfl, rfl⟩
    refine ⟨by show (mkS ab).size + (mkS (encText c.table)).size ≤ 9223372036854775807; simp only [mkS_size]; omega, ?_⟩
    refine (c_r09bytes' W0 c.part hcc.2 _).mono ?_
    rintro _ _ ⟨rfl, rfl⟩
    refine (c_r09Text W0 (mkS (encPart c.part)) (by rw [mkS_size]; omega) _).mono ?_
    rintro _ _ ⟨rfl, rfl⟩
    refine ⟨by show (mkS ab ++ mkS (encText c.table)).size + (mkS (encText (mkS (encPart c.part)))).size ≤ 9223372036854775807; simp only [mkS_append, mkS_size, List.length_append]; omega, ?_⟩
    refine ⟨by show inI64 ((d.length : Int) + 1); unfold inI64; omega, ?_⟩
    refine ⟨r.length, by show r.length < r.length + 1; omega, d ++ [c], r, _, _, ab ++ encMut c, rfl, rfl, rfl, rfl, by rw [hd]; simp, by simp, ?_, ?_⟩
    · show mkS ab ++ mkS (encText c.table) ++ mkS (encText (mkS (encPart c.part))) = _
      simp only [mkS_append, List.append_assoc]; rfl
    · rw [← hab]; simp
  · replace c6 : ¬ (d.length : Int) < ((l.map fun m => V.agg m.v).length : Int) := of_decide_eq_false c6
    rw [hcl] at c6
    cases r with
    | cons c r => exact absurd hdl (by simp only [List.length_cons]; omega)
    | nil =>
    simp only [List.flatMap_nil, List.append_nil] at hab
    exact ⟨kk _ (by rw [hab]), rfl⟩

theorem c_r21Put (m : Msg) (hm : m.sized) (hml : m.muts.length ≤ 2 ^ 60) (h : H) : ACalls Tryz.prog W0 7 [.v (.agg m.v)] h fun r h' => r = .v (.tup [V.s (putMsg m).1, V.i (putMsg m).2]) ∧ h' = h := by
  have cc := c_r21Check W0 m hm hml
  have kk : ∀ q : Str × Int, putMsg m = q → A.v (.tup [V.s q.1, V.i q.2]) = A.v (.tup [V.s (putMsg m).1, V.i (putMsg m).2]) := by rintro q rfl; rfl
  obtain ⟨kind, frm, to, id, muts, keys, num⟩ := m
  replace hm : ∀ x ∈ muts, x.sized := hm
  have hcl : (keys.map V.s).length = keys.length := List.length_map ..
  have hcl2 : ((keys.map V.s).length : Int).toNat = keys.length := by omega
  refine ACalls.of (C := CO [] fun i => match i with | 3 => ([0, 1, 3, 4, 7, 8, 11, 12, 15, 16, 2, 5, 6, 9, 10, 13, 14, 17, 18, 19], [], 1) | 4 => ([0, 1, 2, 5, 6, 7, 3, 4, 8, 9, 10], [], 1) | _ => ([], [], 0)) (cOkO _ _) hP (fn := Tryz.f7) (by kernel_rfl) (by kernel_rfl) ?_
  refine (cc _).mono ?_
  rintro _ h ⟨rfl, rfl⟩
  refine ⟨fun c1 => ?_, fun c1 => ?_⟩
  · replace c1 := not_t c1
    exact ⟨kk (⟨#[]⟩, 1) (by unfold putMsg; rw [if_neg (by rw [c1]; exact Bool.false_ne_true)]), rfl⟩
  replace c1 := not_f c1
  have hlen := encMsg_le c1
  have hmsg : encMsg ⟨kind, frm, to, id, muts, keys, num⟩ = numB kind.toNat ++ numB frm.toNat ++ numB to.toNat ++ numB id.toNat ++ numB num.toNat ++ (numB muts.length ++ muts.flatMap encMut) ++ numB keys.length ++ keys.flatMap encText := by simp [encMsg]
  have hml := congrArg List.length hmsg
  simp only [List.length_append] at hml
  have c2 := c1
  simp only [checkMsg, Bool.and_eq_true, decide_eq_true_eq, List.all_eq_true] at c2
  obtain ⟨⟨⟨⟨⟨⟨⟨⟨⟨h1, h2⟩, h3⟩, h4⟩, h5⟩, h6⟩, h7⟩, h8⟩, h9⟩, h10⟩ := c2
  replace h7 : muts.length ≤ 100 := h7
  replace h8 : keys.length ≤ 40 := h8
  replace h9 : ∀ s ∈ keys, s.size ≤ 100 := h9
  replace h10 : ∀ x ∈ muts, isName x.table = true ∧ checkPart x.part = true := h10
  have inn : ∀ {v k : Int}, inB v k = true → k ≤ 1099511627776 → natB v := by
    intro v k h hk
    have : 0 ≤ v ∧ v ≤ k := by simpa [inB] using h
    exact ⟨this.1, by omega⟩
  have b1 : natB kind := ⟨by show 0 ≤ kind; omega, by show kind ≤ _; omega⟩
  have b2 := inn h3 (by decide)
  have b3 := inn h4 (by decide)
  have b4 := inn h5 (by decide)
  have b5 := inn h6 (by decide)
  replace b2 : natB frm := b2
  replace b3 : natB to := b3
  replace b4 : natB id := b4
  replace b5 : natB num := b5
  have up : ∀ {v : Int}, natB v → v < 2 ^ 63 := fun h => by have := h.2; omega
  refine ⟨[], fun _ => false, ?_⟩
  refine (c_r09Num W0 kind b1.1 (up b1) _).mono ?_
  rintro _ _ ⟨rfl, rfl⟩
  refine (c_r09Num W0 frm b2.1 (up b2) _).mono ?_
  rintro _ _ ⟨rfl, rfl⟩
  refine ⟨by show (mkS (numB kind.toNat)).size + (mkS (numB frm.toNat)).size ≤ 9223372036854775807; simp only [mkS_size]; omega, ?_⟩
  refine (c_r09Num W0 to b3.1 (up b3) _).mono ?_
  rintro _ _ ⟨rfl, rfl⟩
  refine ⟨by show (mkS (numB kind.toNat) ++ mkS (numB frm.toNat)).size + (mkS (numB to.toNat)).size ≤ 9223372036854775807; simp only [mkS_append, mkS_size, List.length_append]; omega, ?_⟩
  refine (c_r09Num W0 id b4.1 (up b4) _).mono ?_
  rintro _ _ ⟨rfl, rfl⟩
  refine ⟨by show (mkS (numB kind.toNat) ++ mkS (numB frm.toNat) ++ mkS (numB to.toNat)).size + (mkS (numB id.toNat)).size ≤ 9223372036854775807; simp only [mkS_append, mkS_size, List.length_append]; omega, ?_⟩
  refine (c_r09Num W0 num b5.1 (up b5) _).mono ?_
  rintro _ _ ⟨rfl, rfl⟩
  refine ⟨by show (mkS (numB kind.toNat) ++ mkS (numB frm.toNat) ++ mkS (numB to.toNat) ++ mkS (numB id.toNat)).size + (mkS (numB num.toNat)).size ≤ 9223372036854775807; simp only [mkS_append, mkS_size, List.length_append]; omega, ?_⟩
  refine ⟨[], fun _ => false, ?_⟩
  refine (c_r09Muts W0 muts h10 (by omega) _).mono ?_
  rintro _ _ ⟨rfl, rfl⟩
  refine ⟨by show (mkS (numB kind.toNat) ++ mkS (numB frm.toNat) ++ mkS (numB to.toNat) ++ mkS (numB id.toNat) ++ mkS (numB num.toNat)).size + (mkS (numB muts.length ++ muts.flatMap encMut)).size ≤ 9223372036854775807; simp only [mkS_append, mkS_size, List.length_append]; omega, ?_⟩
  refine (c_r09Num W0 ((keys.map V.s).length : Int) (by omega) (by omega) _).mono ?_
  rintro _ h ⟨rfl, rfl⟩
  rw [hcl2]
  refine ⟨by show (mkS (numB kind.toNat) ++ mkS (numB frm.toNat) ++ mkS (numB to.toNat) ++ mkS (numB id.toNat) ++ mkS (numB num.toNat) ++ mkS (numB muts.length ++ muts.flatMap encMut)).size + (mkS (numB keys.length)).size ≤ 9223372036854775807; simp only [mkS_append, mkS_size, List.length_append]; omega, ?_⟩
  refine ⟨0, [1, 4, 5], 1, fun m xs lo h2 => ∃ (d r : List Str) (k : Int) (acc : Str) (ab : List UInt8), xs = [.lp 0 0, .v (V.s acc), .v (V.i k)] ∧
      lo = [.cells [.v (V.i kind), .v (V.i frm), .v (V.i to), .v (V.i id), .v (.sl 4 (muts.map fun x => .agg x.v)), .v (.sl 1 (keys.map V.s)), .v (V.i num)]] ∧ h2 = h ∧ m = r.length ∧ keys = d ++ r ∧ k = d.length ∧ acc = mkS ab ∧
      ab ++ r.flatMap encText = encMsg ⟨kind, frm, to, id, muts, keys, num⟩,
    ⟨keys.length, [], keys, _, _, numB kind.toNat ++ numB frm.toNat ++ numB to.toNat ++ numB id.toNat ++ numB num.toNat ++ (numB muts.length ++ muts.flatMap encMut) ++ numB keys.length, rfl, rfl, rfl, rfl, rfl, rfl,
      by show mkS (numB kind.toNat) ++ mkS (numB frm.toNat) ++ mkS (numB to.toNat) ++ mkS (numB id.toNat) ++ mkS (numB num.toNat) ++ mkS (numB muts.length ++ muts.flatMap encMut) ++ mkS (numB keys.length) = _; simp only [mkS_append], hmsg.symm⟩, ?_⟩
  rintro m xs lo h2 ⟨d, r, k, acc, ab, rfl, rfl, rfl, rfl, hd, rfl, rfl, hab⟩
  have hdl : keys.length = d.length + r.length := by rw [hd, List.length_append]
  have hlt := congrArg List.length hab
  simp only [List.length_append] at hlt
  refine ⟨fun c6 => ?_, fun c6 => ?_⟩
  · replace c6 : (d.length : Int) < ((keys.map V.s).length : Int) := of_decide_eq_true c6
    rw [hcl] at c6
    cases r with
    | nil => exact absurd hdl (by simp only [List.length_nil]; omega)
    | cons c r =>
    have hget : (keys.map V.s)[((d.length : Nat) : Int).toNat]? = some (V.s c) := by rw [Int.toNat_natCast, hd]; exact map_get _ d c r
    have hm : c ∈ keys := by rw [hd]; simp
    have hc9 := h9 c hm
    simp only [List.length_cons] at hdl
    simp only [List.flatMap_cons, List.length_append] at hlt
    refine ⟨V.s c, ⟨by show (0:Int) ≤ (d.length : Int); omega, hget⟩, ?_⟩
    refine (c_r09Text W0 c (by omega) _).mono ?_
    rintro _ _ ⟨rfl, rfl⟩
    refine ⟨by show (mkS ab).size + (mkS (encText c)).size ≤ 9223372036854775807; simp only [mkS_size]; omega, ?_⟩
    refine ⟨by show inI64 ((d.length : Int) + 1); unfold inI64; omega, ?_⟩
    refine ⟨r.length, by show r.length < r.length + 1; omega, d ++ [c], r, _, _, ab ++ encText c, rfl, rfl, rfl, rfl, by rw [hd]; simp, by simp, mkS_append _ _, ?_⟩
    rw [← hab]; simp
  · replace c6 : ¬ (d.length : Int) < ((keys.map V.s).length : Int) := of_decide_eq_false c6
    rw [hcl] at c6
    cases r with
    | cons c r => exact absurd hdl (by simp only [List.length_cons]; omega)
    | nil =>
    simp only [List.flatMap_nil, List.append_nil] at hab
    have hsz : (mkS ab).size = (encMsg ⟨kind, frm, to, id, muts, keys, num⟩).length := by rw [mkS_size, hab]
    refine ⟨fun c7 => ?_, fun c7 => ?_⟩
    · replace c7 : 4096 < (encMsg ⟨kind, frm, to, id, muts, keys, num⟩).length := by
        have : (4096 : Int) < ((mkS ab).size : Int) := of_decide_eq_true c7
        omega
      exact ⟨kk (⟨#[]⟩, 2) (by unfold putMsg; rw [if_pos c1, if_pos c7]), rfl⟩
    · replace c7 : ¬ 4096 < (encMsg ⟨kind, frm, to, id, muts, keys, num⟩).length := by
        have : ¬ (4096 : Int) < ((mkS ab).size : Int) := of_decide_eq_false c7
        omega
      exact ⟨kk (mkS ab, 0) (by unfold putMsg; rw [if_pos c1, if_neg c7, hab]), rfl⟩
end Go.AI

namespace Go.AI
open Go.Proofs Go
variable (W0 : World)
set_option maxRecDepth 20000
set_option maxHeartbeats 2000000

/-- A byte of a list, as a number. -/
def bt (b : List UInt8) (i : Nat) : Nat := (b[i]?.getD 0).toNat
theorem bt_lt (b : List UInt8) (i : Nat) : bt b i < 256 := (b[i]?.getD 0).toNat_lt
theorem bt_of (s : Str) (i : Nat) : (s.data.getD i 0).toNat = bt s.data.toList i := by
  unfold bt; simp [Array.getD_eq_getD_getElem?]
theorem getNum_eq (b : List UInt8) (p : Nat) : getNum b p = if b.length < p then (0, 0, 1) else if p = b.length then (0, 0, 8) else if 8 < bt b p then (0, 0, 6)
  else if 0 < bt b p ∧ p + 1 < b.length ∧ bt b (p + 1) = 0 then (0, 0, 6) else if b.length < p + 1 + bt b p then (0, 0, 8)
  else (beV ((b.drop (p + 1)).take (bt b p)), p + 1 + bt b p, 0) := rfl

theorem c_r02GetNum (s : Str) (p : Nat) (hp : p ≤ 2 ^ 45) (hb : s.size ≤ 2 ^ 45) (h : H) :
    ACalls Tryz.prog W0 51 [.v (V.s s), .v (V.i p)] h fun r h' =>
      r = .v (.tup [.lit (.int .u64 (getNum s.data.toList p).1), V.i (getNum s.data.toList p).2.1, V.i (getNum s.data.toList p).2.2]) ∧ h' = h := by
  obtain ⟨b, hbe⟩ : ∃ b, b = s.data.toList := ⟨_, rfl⟩
  have hlen : b.length = s.size := by rw [hbe, str_len]
  have hby : ∀ (i : Int) (k : Nat), i = k → (s.data.getD i.toNat 0).toNat = bt b k := by
    rintro i k rfl; rw [Int.toNat_natCast, bt_of, hbe]
  rw [← hbe]
  have key : ∀ g : Nat × Nat × Nat, getNum b p = g → (A.v (.tup [.lit (.int .u64 g.1), V.i g.2.1, V.i g.2.2]) = A.v (.tup [.lit (.int .u64 (getNum b p).1), V.i (getNum b p).2.1, V.i (getNum b p).2.2])) := by
    rintro g rfl; rfl
  have ge := getNum_eq b p
  have h0 := hby (p : Int) p rfl
  have h1 := hby ((p : Int) + 1) (p + 1) (by omega)
  have hlt := bt_lt b p
  obtain ⟨c, hc⟩ : ∃ c, c = bt b p := ⟨_, rfl⟩
  rw [← hc] at ge h0 hlt
  refine ACalls.of (C := CO [] fun _ => ([], [], 0)) (cOkO _ _) hP (fn := Tryz.f51) (by kernel_rfl) (by kernel_rfl) ?_
  refine ⟨fun c1 => ?_, fun c1 => ?_⟩
  · replace c1 : b.length < p := by
      have : ((p : Int) < 0) ∨ ((p : Int) > (s.size : Int)) := by simpa using c1
      omega
    refine ⟨?_, rfl⟩
    exact key (0, 0, 1) (by rw [ge, if_pos c1])
  replace c1 : ¬ b.length < p := by
    have : ¬ (((p : Int) < 0) ∨ ((p : Int) > (s.size : Int))) := by simpa using c1
    omega
  rw [if_neg c1] at ge
  refine ⟨fun c2 => ?_, fun c2 => ?_⟩
  · replace c2 : p = b.length := by
      have : (p : Int) = (s.size : Int) := by simpa using c2
      omega
    exact ⟨key (0, 0, 8) (by rw [ge, if_pos c2]), rfl⟩
  replace c2 : ¬ p = b.length := by
    have : ¬ (p : Int) = (s.size : Int) := by simpa using c2
    omega
  rw [if_neg c2] at ge
  refine ⟨by show 0 ≤ (p : Int) ∧ (p : Int) < (s.size : Int); omega, ?_⟩
  refine ⟨fun c3 => ?_, fun c3 => ?_⟩
  · replace c3 : 8 < c := by
      have : (8:Int) < ((s.data.getD (p : Int).toNat 0).toNat : Int) := of_decide_eq_true c3
      rw [h0] at this; omega
    exact ⟨key (0, 0, 6) (by rw [ge, if_pos c3]), rfl⟩
  replace c3 : ¬ 8 < c := by
    have : ¬ (8:Int) < ((s.data.getD (p : Int).toNat 0).toNat : Int) := of_decide_eq_false c3
    rw [h0] at this; omega
  rw [if_neg c3] at ge
  refine ⟨by show 0 ≤ (p : Int) ∧ (p : Int) < (s.size : Int); omega, ?_⟩
  refine ⟨(c : Int), by show IntKind.i64.wrap ((s.data.getD (p : Int).toNat 0).toNat : Int) = _; rw [h0]; exact wrapI64 (by omega) (by omega), ?_⟩
  refine ⟨fun hg => by show inI64 ((p : Int) + 1); unfold inI64; omega, ?_⟩
  refine ⟨fun hg => by show inI64 ((p : Int) + 1); unfold inI64; omega, ?_⟩
  refine ⟨fun hg => ?_, ?_⟩
  · have hg' : (0 < (c : Int)) ∧ ((p : Int) + 1 < (s.size : Int)) := by simpa using hg
    show 0 ≤ (p : Int) + 1 ∧ (p : Int) + 1 < (s.size : Int)
    omega
  have e4 : ∀ x : Bool, x = (((decide ((0:Int) < (c : Int))) && decide ((p : Int) + 1 < (s.size : Int))) && (((s.data.getD ((p : Int) + 1).toNat 0).toNat : Int) == 0)) →
      (x = true ↔ (0 < c ∧ p + 1 < b.length ∧ bt b (p + 1) = 0)) := by
    rintro x rfl
    rw [h1]
    simp only [Bool.and_eq_true, decide_eq_true_eq, beq_iff_eq, and_assoc]
    omega
  refine ⟨fun c4 => ?_, fun c4 => ?_⟩
  · replace c4 := (e4 _ (by
      cases decide ((0:Int) < (c : Int)) <;> cases decide ((p : Int) + 1 < (s.size : Int)) <;> rfl)).1 c4
    exact ⟨key (0, 0, 6) (by rw [ge, if_pos c4]), rfl⟩
  replace c4 := fun hx => Bool.false_ne_true (c4.symm.trans ((e4 _ (by
      cases decide ((0:Int) < (c : Int)) <;> cases decide ((p : Int) + 1 < (s.size : Int)) <;> rfl)).2 hx))
  rw [if_neg c4] at ge
  refine ⟨by show inI64 ((s.size : Int) - (p : Int)); unfold inI64; omega, ?_⟩
  refine ⟨by show inI64 ((s.size : Int) - (p : Int) - 1); unfold inI64; omega, ?_⟩
  refine ⟨fun c5 => ?_, fun c5 => ?_⟩
  · replace c5 : b.length < p + 1 + c := by
      have : (s.size : Int) - (p : Int) - 1 < (c : Int) := of_decide_eq_true c5
      omega
    exact ⟨key (0, 0, 8) (by rw [ge, if_pos c5]), rfl⟩
  replace c5 : ¬ b.length < p + 1 + c := by
    have : ¬ (s.size : Int) - (p : Int) - 1 < (c : Int) := of_decide_eq_false c5
    omega
  rw [if_neg c5] at ge
  refine ⟨0, [0, 1, 7, 8, 9], 0, fun m xs l h2 => ∃ (k : Nat) (X q : Int), xs = [.v (V.s s), .v (V.i p), .v (V.i c), .v (.lit (.int .u64 X)), .v (V.i q)] ∧ l = [] ∧ h2 = h ∧ m + k = c ∧ X = (beV ((b.drop (p + 1)).take k) : Nat) ∧ q = (k : Int) + 1,
    ⟨c, 0, _, _, rfl, rfl, rfl, by show c + 0 = c; omega, rfl, rfl⟩, ?_⟩
  rintro m xs l h2 ⟨k, X, q, rfl, rfl, rfl, hk, rfl, rfl⟩
  replace hk : (m : Nat) + k = c := hk
  refine ⟨fun c6 => ?_, fun c6 => ?_⟩
  · replace c6 : (k : Int) + 1 ≤ (c : Int) := of_decide_eq_true c6
    have hks : p + 1 + k < b.length := by omega
    have hdl : k < (b.drop (p + 1)).length := by simp; omega
    have htk : (b.drop (p + 1)).take (k + 1) = (b.drop (p + 1)).take k ++ [b[p + 1 + k]?.getD 0] := by
      rw [List.take_add_one]; simp [hks]
    have hlt := beV_lt ((b.drop (p + 1)).take (k + 1))
    have h256 : (256:Nat) ^ ((b.drop (p + 1)).take (k + 1)).length ≤ 256 ^ 8 := Nat.pow_le_pow_right (by decide) (by simp; omega)
    have e256 : 256 ^ 8 = 2 ^ 64 := by decide
    replace hlt := Nat.lt_of_lt_of_le hlt h256
    rw [htk, beV_snoc, e256] at hlt
    have h2x := hby ((p : Int) + ((k : Int) + 1)) (p + 1 + k) (by omega)
    have hxl := bt_lt b (p + 1 + k)
    replace hlt : beV ((b.drop (p + 1)).take k) * 256 + bt b (p + 1 + k) < 2 ^ 64 := hlt
    refine ⟨by show inI64 ((p : Int) + ((k : Int) + 1)); unfold inI64; omega, ?_⟩
    refine ⟨by show 0 ≤ (p : Int) + ((k : Int) + 1) ∧ (p : Int) + ((k : Int) + 1) < (s.size : Int); omega, ?_⟩
    refine ⟨(bt b (p + 1 + k) : Int), by show IntKind.u64.wrap ((s.data.getD ((p : Int) + ((k : Int) + 1)).toNat 0).toNat : Int) = _; rw [h2x]; exact wrapU64 (by omega) (by omega), ?_⟩
    refine ⟨by show inI64 ((k : Int) + 1 + 1); unfold inI64; omega, ?_⟩
    refine ⟨m - 1, by show (m : Nat) - 1 < m; omega, k + 1, _, _, rfl, rfl, rfl, by show (m : Nat) - 1 + (k + 1) = c; omega, ?_, by show (k : Int) + 1 + 1 = ((k + 1 : Nat) : Int) + 1; omega⟩
    show IntKind.u64.wrap (IntKind.u64.wrap (((beV ((b.drop (p + 1)).take k) : Nat) : Int) * 256) + (bt b (p + 1 + k) : Int)) = _
    rw [wrapU64 (n := ((beV ((b.drop (p + 1)).take k) : Nat) : Int) * 256) (by omega) (by omega), wrapU64 (by omega) (by omega), htk, beV_snoc]
    show _ = ((beV ((b.drop (p + 1)).take k) * 256 + bt b (p + 1 + k) : Nat) : Int)
    omega
  · replace c6 : ¬ (k : Int) + 1 ≤ (c : Int) := of_decide_eq_false c6
    obtain rfl : k = c := by omega
    refine ⟨by show inI64 ((p : Int) + 1); unfold inI64; omega, ?_⟩
    refine ⟨by show inI64 ((p : Int) + 1 + (k : Int)); unfold inI64; omega, ?_⟩
    refine ⟨?_, rfl⟩
    rw [ge]; rfl

/-- The reference's reader. -/
def RR (s : Str) (t : RS) : HO := .cells [.v (V.s s), .v (V.i (t.p : Int)), .v (V.i (t.e : Int))]
theorem e_true {t : RS} (h : ((t.e : Int) == 0) = true) : t.e = 0 := by simpa using h
theorem e_false {t : RS} (h : ((t.e : Int) == 0) = false) : ¬ t.e = 0 := by simpa using h
theorem en_true {t : RS} (h : ((t.e : Int) != 0) = true) : ¬ t.e = 0 := by simpa using h
theorem en_false {t : RS} (h : ((t.e : Int) != 0) = false) : t.e = 0 := by simpa using h

theorem c_rWrong (s : Str) (t : RS) (k x : Nat) {h : H} (hx : h x = some (RR s t)) :
    ACalls Tryz.prog W0 24 [.v (.ptr x 0), .v (V.i k)] h fun r h' => r = .v (.tup []) ∧ h' = h.upd x (RR s (t.fail k)) := by
  refine ACalls.of (C := CO [] fun _ => ([], [], 0)) (cOkO _ _) hP (fn := Tryz.f24) (by kernel_rfl) (by kernel_rfl) ?_
  refine ⟨_, ⟨hx, trivial⟩, ?_⟩
  refine ⟨fun c1 => ?_, fun c1 => ?_⟩
  · replace c1 := e_true c1
    refine ⟨rfl, _, hx, ?_⟩
    refine ⟨rfl, ?_⟩
    rw [RS.fail_pos c1]; rfl
  · replace c1 := e_false c1
    refine ⟨rfl, ?_⟩
    rw [RS.fail_neg c1, H.upd_self hx]; rfl

theorem c_rraw (s : Str) (t : RS) (x : Nat) (hb : s.size ≤ 2 ^ 45) (hs : t.ok s.data.toList) {h : H} (hx : h x = some (RR s t)) :
    ACalls Tryz.prog W0 39 [.v (.ptr x 0)] h fun r h' => r = .v (.lit (.int .u64 (rAny s.data.toList t).1)) ∧ h' = h.upd x (RR s (rAny s.data.toList t).2) := by
  have hp := hs.1
  have hl := str_len s
  refine ACalls.of (C := CO [] fun i => match i with | 3 => ([0, 1, 2, 3, 4, 5, 6, 7, 8, 9, 10, 11, 12, 13, 14, 15], [], 1) | _ => ([], [], 0)) (cOkO _ _) hP (fn := Tryz.f39) (by kernel_rfl) (by kernel_rfl) ?_
  refine ⟨_, ⟨hx, trivial⟩, ?_⟩
  refine ⟨fun c1 => ?_, fun c1 => ?_⟩
  · replace c1 := en_true c1
    rw [rAny_neg c1, H.upd_self hx]
    exact ⟨rfl, rfl⟩
  replace c1 := en_false c1
  rw [rAny_pos c1]
  refine ⟨[], fun y => Nat.beq y x, ?_⟩
  refine ⟨_, ⟨hx, Nat.beq_refl x⟩, ?_⟩
  refine ⟨_, ⟨hx, Nat.beq_refl x⟩, ?_⟩
  refine (c_r02GetNum W0 s t.p (by omega) hb _).mono ?_
  rintro _ _ ⟨rfl, rfl⟩
  rw [H.back_hide]
  refine ⟨fun c3 => ?_, fun c3 => ?_⟩
  · replace c3 : ¬ (getNum s.data.toList t.p).2.2 = 0 := by
      have : (((getNum s.data.toList t.p).2.2 : Int) != 0) = true := c3
      simpa using this
    refine (c_rWrong W0 s t (getNum s.data.toList t.p).2.2 x hx).mono ?_
    rintro _ _ ⟨rfl, rfl⟩
    rw [if_neg c3, RS.fail_pos c1]
    exact ⟨rfl, rfl⟩
  replace c3 : (getNum s.data.toList t.p).2.2 = 0 := by
    have : (((getNum s.data.toList t.p).2.2 : Int) != 0) = false := c3
    simpa using this
  rw [if_pos c3]
  refine ⟨rfl, _, hx, ?_⟩
  refine ⟨rfl, ?_⟩
  show h.upd x (.cells [_, _, .v (V.i t.e)]) = _
  rw [c1]; rfl

theorem c_rrNum (s : Str) (t : RS) (x : Nat) (hb : s.size ≤ 2 ^ 45) (hs : t.ok s.data.toList) {h : H} (hx : h x = some (RR s t)) :
    ACalls Tryz.prog W0 19 [.v (.ptr x 0)] h fun r h' => r = .v (V.i (rNum s.data.toList t).1) ∧ h' = h.upd x (RR s (rNum s.data.toList t).2) := by
  have hok := rAny_ok hs
  refine ACalls.of (C := CO [] fun _ => ([], [], 0)) (cOkO _ _) hP (fn := Tryz.f19) (by kernel_rfl) (by kernel_rfl) ?_
  refine (c_rraw W0 s t x hb hs hx).mono ?_
  rintro _ _ ⟨rfl, rfl⟩
  refine ⟨fun c1 => ?_, fun c1 => ?_⟩
  · replace c1 : 1099511627776 < (rAny s.data.toList t).1 := by
      have : (1099511627776 : Int) < ((rAny s.data.toList t).1 : Int) := of_decide_eq_true c1
      omega
    refine (c_rWrong W0 s (rAny s.data.toList t).2 6 x (H.upd_get _ _ _)).mono ?_
    rintro _ _ ⟨rfl, rfl⟩
    have e : rNum s.data.toList t = (0, (rAny s.data.toList t).2.fail 6) := by unfold rNum; rw [if_pos c1]
    rw [e, H.upd_upd]
    exact ⟨rfl, rfl⟩
  replace c1 : ¬ 1099511627776 < (rAny s.data.toList t).1 := by
    have : ¬ (1099511627776 : Int) < ((rAny s.data.toList t).1 : Int) := of_decide_eq_false c1
    omega
  refine ⟨((rAny s.data.toList t).1 : Int), wrapI64 (by omega) (by omega), ?_⟩
  have e : rNum s.data.toList t = rAny s.data.toList t := by unfold rNum; rw [if_neg c1]
  rw [e]
  exact ⟨rfl, rfl⟩

theorem c_rrCount (s : Str) (t : RS) (x : Nat) (hb : s.size ≤ 2 ^ 45) (hs : t.ok s.data.toList) {h : H} (hx : h x = some (RR s t)) :
    ACalls Tryz.prog W0 21 [.v (.ptr x 0)] h fun r h' => r = .v (V.i (rCount s.data.toList t).1) ∧ h' = h.upd x (RR s (rCount s.data.toList t).2) := by
  have hok := rAny_ok hs
  have hle := hok.1.1
  have hl := str_len s
  have h0e : ¬ (rAny s.data.toList t).2.e = 0 → (rAny s.data.toList t).1 = 0 := by
    intro h0
    by_cases c1 : t.e = 0
    · rw [rAny_pos c1] at h0 ⊢
      by_cases c3 : (getNum s.data.toList t.p).2.2 = 0
      · rw [if_pos c3] at h0; exact absurd rfl h0
      · rw [if_neg c3]
    · rw [rAny_neg c1]
  refine ACalls.of (C := CO [] fun i => match i with | 2 => ([0, 1, 2, 3, 4, 5, 6, 7, 8, 9, 10, 11, 12], [], 0) | _ => ([], [], 0)) (cOkO _ _) hP (fn := Tryz.f21) (by kernel_rfl) (by kernel_rfl) ?_
  refine (c_rraw W0 s t x hb hs hx).mono ?_
  rintro _ _ ⟨rfl, rfl⟩
  refine ⟨_, ⟨H.upd_get _ _ _, trivial⟩, ?_⟩
  refine ⟨_, ⟨H.upd_get _ _ _, trivial⟩, ?_⟩
  refine ⟨by show inI64 ((s.size : Int) - ((rAny s.data.toList t).2.p : Int)); unfold inI64; omega, ?_⟩
  refine ⟨((s.data.toList.length - (rAny s.data.toList t).2.p : Nat) : Int), by show IntKind.u64.wrap ((s.size : Int) - ((rAny s.data.toList t).2.p : Int)) = _; rw [wrapU64 (by omega) (by omega)]; omega, ?_⟩
  refine ⟨fun c1 => ?_, fun c1 => ?_⟩
  · replace c1 : s.data.toList.length - (rAny s.data.toList t).2.p < (rAny s.data.toList t).1 := by
      have : ((s.data.toList.length - (rAny s.data.toList t).2.p : Nat) : Int) < ((rAny s.data.toList t).1 : Int) := of_decide_eq_true c1
      omega
    refine (c_rWrong W0 s (rAny s.data.toList t).2 8 x (H.upd_get _ _ _)).mono ?_
    rintro _ _ ⟨rfl, rfl⟩
    have hne : ¬ ((rAny s.data.toList t).2.fail 8).e = 0 := by
      intro c5
      by_cases h0 : (rAny s.data.toList t).2.e = 0
      · rw [RS.fail_pos h0] at c5; cases c5
      · rw [RS.fail_neg h0] at c5; exact h0 c5
    have e : rCount s.data.toList t = (0, (rAny s.data.toList t).2.fail 8) := by simp only [rCount]; rw [if_pos c1, if_neg hne]
    rw [e, H.upd_upd]
    exact ⟨rfl, rfl⟩
  replace c1 : ¬ s.data.toList.length - (rAny s.data.toList t).2.p < (rAny s.data.toList t).1 := by
    have : ¬ ((s.data.toList.length - (rAny s.data.toList t).2.p : Nat) : Int) < ((rAny s.data.toList t).1 : Int) := of_decide_eq_false c1
    omega
  have e : rCount s.data.toList t = ((rAny s.data.toList t).1, (rAny s.data.toList t).2) := by
    simp only [rCount]; rw [if_neg c1]
    by_cases h0 : (rAny s.data.toList t).2.e = 0
    · rw [if_pos h0]
    · rw [if_neg h0, h0e h0]
  refine ⟨((rAny s.data.toList t).1 : Int), wrapI64 (by omega) (by omega), ?_⟩
  rw [e]
  exact ⟨rfl, rfl⟩

theorem extract_toList (s : Str) (i j : Nat) : (s.extract i j).data.toList = (s.data.toList.drop i).take (j - i) := by
  rw [ByteArray.data_extract, Array.toList_extract, List.extract_eq_take_drop]
theorem str_ext {a b : Str} (h : a.data.toList = b.data.toList) : a = b := ByteArray.ext (Array.toList_inj.1 h)

theorem rCount_zero {b : List UInt8} {s : RS} (h : ¬ (rCount b s).2.e = 0) : (rCount b s).1 = 0 := by
  obtain ⟨s2, h2⟩ : ∃ s2, s2 = (if b.length - (rAny b s).2.p < (rAny b s).1 then (rAny b s).2.fail 8 else (rAny b s).2) := ⟨_, rfl⟩
  have e : rCount b s = if s2.e = 0 then ((rAny b s).1, s2) else (0, s2) := by rw [h2]; rfl
  rw [e] at h ⊢
  by_cases hz : s2.e = 0
  · rw [if_pos hz] at h; exact absurd hz h
  · rw [if_neg hz]
theorem c_rrText (s : Str) (t : RS) (x : Nat) (hb : s.size ≤ 2 ^ 45) (hs : t.ok s.data.toList) {h : H} (hx : h x = some (RR s t)) :
    ACalls Tryz.prog W0 22 [.v (.ptr x 0)] h fun r h' => r = .v (V.s (rText s.data.toList t).1) ∧ h' = h.upd x (RR s (rText s.data.toList t).2) := by
  obtain ⟨n, s1, hc⟩ : ∃ n s1, rCount s.data.toList t = (n, s1) := ⟨_, _, rfl⟩
  have hok := rCount_ok hs
  rw [hc] at hok
  have hle : s1.p + n ≤ s.data.toList.length := hok.2
  have hl := str_len s
  have cc := c_rrCount W0 s t x hb hs hx
  rw [hc] at cc
  have ht : rText s.data.toList t = (⟨((s.data.toList.drop s1.p).take n).toArray⟩, ⟨s1.p + n, s1.e⟩) := by unfold rText; rw [hc]
  have hz : ¬ s1.e = 0 → n = 0 := by
    intro h0
    have := rCount_zero (b := s.data.toList) (s := t) (by rw [hc]; exact h0)
    rw [hc] at this
    exact this
  rw [ht]
  refine ACalls.of (C := CO [] fun i => match i with | 4 => ([0, 1, 2, 3, 4, 5, 6, 7, 8, 9, 10, 11, 12, 13, 14, 15], [], 0) | _ => ([], [], 0)) (cOkO _ _) hP (fn := Tryz.f22) (by kernel_rfl) (by kernel_rfl) ?_
  refine cc.mono ?_
  rintro _ _ ⟨rfl, rfl⟩
  refine ⟨_, ⟨H.upd_get _ _ _, trivial⟩, ?_⟩
  refine ⟨fun c2 => ?_, fun c2 => ?_⟩
  · replace c2 := en_true c2
    have hn := hz c2
    subst hn
    exact ⟨rfl, rfl⟩
  replace c2 := en_false c2
  refine ⟨_, ⟨H.upd_get _ _ _, trivial⟩, ?_⟩
  refine ⟨_, ⟨H.upd_get _ _ _, trivial⟩, ?_⟩
  refine ⟨_, ⟨H.upd_get _ _ _, trivial⟩, ?_⟩
  refine ⟨by show inI64 ((s1.p : Int) + (n : Int)); unfold inI64; omega, ?_⟩
  refine ⟨⟨by show (0:Int) ≤ (s1.p : Int) + (n : Int); omega, by show (s1.p : Int) + (n : Int) ≤ (s.size : Int); omega⟩, ?_⟩
  refine ⟨⟨by show (0:Int) ≤ (s1.p : Int); omega, by show (s1.p : Int) ≤ ((((s1.p : Int) + (n : Int)).toNat : Nat) : Int); omega⟩, ?_⟩
  refine ⟨_, ⟨H.upd_get _ _ _, trivial⟩, ?_⟩
  refine ⟨by show inI64 ((s1.p : Int) + (n : Int)); unfold inI64; omega, ?_⟩
  refine ⟨rfl, _, H.upd_get _ _ _, ?_⟩
  refine ⟨?_, H.upd_upd _ _ _ _⟩
  have : s.extract ((s1.p : Int)).toNat ((s1.p : Int) + (n : Int)).toNat = ⟨((s.data.toList.drop s1.p).take n).toArray⟩ := by
    apply str_ext
    rw [extract_toList, show ((s1.p : Int)).toNat = s1.p by omega, show ((s1.p : Int) + (n : Int)).toNat - s1.p = n by omega]
  exact congrArg (fun z => A.v (V.s z)) this
end Go.AI

namespace Go.AI
open Go.Proofs Go
variable (W0 : World)
set_option maxRecDepth 20000
set_option maxHeartbeats 2000000

theorem bt_cast (b : List UInt8) (i k : Nat) : ((bt b i : Int) == (k : Int)) = decide (bt b i = k) := by
  by_cases hh : bt b i = k
  · rw [hh]; simp
  · rw [decide_eq_false hh]; simp; omega
theorem rText_err {b : List UInt8} {s : RS} (h : ¬ s.e = 0) : rText b s = (⟨#[]⟩, s) := by
  have e1 : rAny b s = (0, s) := rAny_neg h
  have e2 : rCount b s = (0, s) := by simp only [rCount, e1]; simp [h]
  unfold rText; rw [e2]; simp
theorem rNum_err {b : List UInt8} {s : RS} (h : ¬ s.e = 0) : rNum b s = (0, s) := by
  have e1 : rAny b s = (0, s) := rAny_neg h
  unfold rNum; rw [e1]; simp
theorem rNum_zero {b : List UInt8} {s : RS} (h : ¬ (rNum b s).2.e = 0) : (rNum b s).1 = 0 := by
  unfold rNum at h ⊢
  by_cases c : 1099511627776 < (rAny b s).1
  · rw [if_pos c]
  · rw [if_neg c] at h ⊢
    by_cases c1 : s.e = 0
    · rw [rAny_pos c1] at h ⊢
      by_cases c3 : (getNum b s.p).2.2 = 0
      · rw [if_pos c3] at h; exact absurd rfl h
      · rw [if_neg c3]
    · rw [rAny_neg c1]

theorem c_rrcell (s : Str) (t : RS) (x : Nat) (hb : s.size ≤ 2 ^ 45) (hs : t.ok s.data.toList) (h : H) :
    ACalls Tryz.prog W0 60 [.v (.ptr x 0)] (h.upd x (RR s t)) fun r h' => r = .v (.agg (rCell s.data.toList t).1.v) ∧ h' = h.upd x (RR s (rCell s.data.toList t).2) := by
  obtain ⟨b, hbe⟩ : ∃ b, b = s.data.toList := ⟨_, rfl⟩
  have hl : b.length = s.size := by rw [hbe, str_len]
  obtain ⟨n, s1, e1⟩ : ∃ n s1, rNum b t = (n, s1) := ⟨_, _, rfl⟩
  have c1 := c_rrNum W0 s t x hb hs (H.upd_get h x (RR s t)); rw [← hbe, e1, H.upd_upd] at c1
  rw [← hbe] at hs ⊢
  have hs1 : s1.ok b := by have := (rNum_ok hs).1; rw [e1] at this; exact this
  have hz : ¬ s1.e = 0 → n = 0 := by
    intro h0
    have := rNum_zero (b := b) (s := t) (by rw [e1]; exact h0)
    rw [e1] at this; exact this
  have kk : ∀ (q : Cell × RS), rCell b t = q → (A.v (.agg q.1.v) = A.v (.agg (rCell b t).1.v) ∧ h.upd x (RR s q.2) = h.upd x (RR s (rCell b t).2)) := by rintro q rfl; exact ⟨rfl, rfl⟩
  have hp1 := hs1.1
  have hby : (s.data.getD ((s1.p : Int)).toNat 0).toNat = bt b s1.p := by rw [Int.toNat_natCast, bt_of, hbe]
  have ht : s1.e = 0 → ¬ s1.p = b.length → rTruth b s1 = (decide (bt b s1.p = 1), if 1 < bt b s1.p then ⟨s1.p + 1, 6⟩ else ⟨s1.p + 1, 0⟩) := by
    intro h1 h2; unfold rTruth; rw [if_pos h1, if_neg h2]; rfl
  refine ACalls.of (C := CO [] fun i => match i with | 4 => ([0, 1, 2, 3, 4, 5, 6, 7, 8, 9], [], 0) | 7 => ([0, 1, 2, 3, 4, 5, 6, 7, 8, 9], [], 0) | _ => ([], [], 0)) (cOkO _ _) hP (fn := Tryz.f60) (by kernel_rfl) (by kernel_rfl) ?_
  refine c1.mono ?_
  rintro _ _ ⟨rfl, rfl⟩
  refine ⟨_, ⟨H.upd_get _ _ _, trivial⟩, ?_⟩
  have conv : ∀ y : Bool, y = (bif ((s1.e : Int) != 0) then true else ((n : Int) == 0)) → (y = true ↔ n = 0) := by
    rintro y rfl
    rw [bor_iff]
    constructor
    · rintro (h1 | h1)
      · exact hz (en_true h1)
      · simpa using h1
    · rintro rfl; exact .inr rfl
  refine ⟨fun q1 => ?_, fun q1 => ?_⟩
  · replace q1 := (conv _ rfl).1 q1
    have := kk (⟨⟨#[]⟩, false, 0, 0⟩, s1) (by simp only [rCell, e1, if_pos q1])
    subst q1
    exact this
  replace q1 : ¬ n = 0 := fun hx => Bool.false_ne_true (q1.symm.trans ((conv _ rfl).2 hx))
  have he1 : s1.e = 0 := Classical.byContradiction fun h => q1 (hz h)
  refine ⟨_, ⟨H.upd_get _ _ _, trivial⟩, ?_⟩
  refine ⟨_, ⟨H.upd_get _ _ _, trivial⟩, ?_⟩
  refine ⟨fun q2 => ?_, fun q2 => ?_⟩
  · replace q2 : s1.p = b.length := by
      have : (s.size : Int) ≤ (s1.p : Int) := of_decide_eq_true q2
      omega
    refine (c_rWrong W0 s s1 8 x (H.upd_get _ _ _)).mono ?_
    rintro _ _ ⟨rfl, rfl⟩
    have et : rTruth b s1 = (false, s1.fail 8) := by unfold rTruth; rw [if_pos he1, if_pos q2, RS.fail_pos he1]
    have hne : ¬ (s1.fail 8).e = 0 := by rw [RS.fail_pos he1]; exact Nat.succ_ne_zero 7
    have := kk (⟨⟨#[]⟩, false, n, 0⟩, s1.fail 8) (by simp only [rCell, e1, if_neg q1, et, rText_err hne, rNum_err hne]; rfl)
    exact ⟨this.1, (H.upd_upd _ _ _ _).trans this.2⟩
  replace q2 : ¬ s1.p = b.length := by
    have : ¬ (s.size : Int) ≤ (s1.p : Int) := of_decide_eq_false q2
    omega
  replace ht := ht he1 q2
  refine ⟨_, ⟨H.upd_get _ _ _, trivial⟩, ?_⟩
  refine ⟨_, ⟨H.upd_get _ _ _, trivial⟩, ?_⟩
  refine ⟨by show 0 ≤ (s1.p : Int) ∧ (s1.p : Int) < (s.size : Int); omega, ?_⟩
  refine ⟨_, ⟨H.upd_get _ _ _, trivial⟩, ?_⟩
  refine ⟨by show inI64 ((s1.p : Int) + 1); unfold inI64; omega, ?_⟩
  refine ⟨rfl, _, H.upd_get _ _ _, ?_⟩
  have hst : (h.upd x (RR s s1)).upd x (.cells [.v (V.s s), .v (V.i ((s1.p : Int) + 1)), .v (V.i (s1.e : Int))]) = h.upd x (RR s ⟨s1.p + 1, 0⟩) := by
    rw [H.upd_upd, he1]; rfl
  have hst2 : h.upd x (RR s ⟨s1.p + 1, 0⟩) = (h.upd x (RR s s1)).upd x (.cells [.v (V.s s), .v (V.i ((s1.p : Int) + 1)), .v (V.i (s1.e : Int))]) := hst.symm
  have hok2 : RS.ok b ⟨s1.p + 1, 0⟩ := ⟨by show s1.p + 1 ≤ b.length; omega, by show (0:Nat) < 16; decide⟩
  refine ⟨fun q3 => ?_, fun q3 => ?_⟩
  · replace q3 : bt b s1.p = 0 := by
      have : (((s.data.getD ((s1.p : Int)).toNat 0).toNat : Int) == 0) = true := q3
      rw [hby] at this
      simpa using this
    have et : rTruth b s1 = (false, ⟨s1.p + 1, 0⟩) := by rw [ht, q3]; rfl
    obtain ⟨tx, s3, e3⟩ : ∃ t s3, rText b ⟨s1.p + 1, 0⟩ = (t, s3) := ⟨_, _, rfl⟩
    obtain ⟨e, s4, e4⟩ : ∃ e s4, rNum b s3 = (e, s4) := ⟨_, _, rfl⟩
    have hs3 : s3.ok b := by have := rText_ok hok2; rw [e3] at this; exact this
    have c3 := c_rrText W0 s ⟨s1.p + 1, 0⟩ x hb (hbe ▸ hok2) (H.upd_get h x (RR s ⟨s1.p + 1, 0⟩)); rw [← hbe, e3, H.upd_upd, hst2] at c3
    have c4 := c_rrNum W0 s s3 x hb (hbe ▸ hs3) (H.upd_get h x (RR s s3)); rw [← hbe, e4, H.upd_upd] at c4
    refine c3.mono ?_
    rintro _ _ ⟨rfl, rfl⟩
    refine c4.mono ?_
    rintro _ _ ⟨rfl, rfl⟩
    exact kk (⟨tx, false, n, e⟩, s4) (by simp only [rCell, e1, if_neg q1, et, e3, e4]; rfl)
  replace q3 : ¬ bt b s1.p = 0 := by
    have : (((s.data.getD ((s1.p : Int)).toNat 0).toNat : Int) == 0) = false := q3
    rw [hby] at this
    simpa using this
  refine ⟨fun q4 => ?_, fun q4 => ?_⟩
  · replace q4 : bt b s1.p = 1 := by
      have : (((s.data.getD ((s1.p : Int)).toNat 0).toNat : Int) == 1) = true := q4
      rw [hby] at this
      have := eq_of_beq this
      omega
    have et : rTruth b s1 = (true, ⟨s1.p + 1, 0⟩) := by rw [ht, q4]; rfl
    have := kk (⟨⟨#[]⟩, true, n, 0⟩, ⟨s1.p + 1, 0⟩) (by simp only [rCell, e1, if_neg q1, et, if_true])
    exact ⟨this.1, hst.trans this.2⟩
  replace q4 : ¬ bt b s1.p = 1 := by
    have : (((s.data.getD ((s1.p : Int)).toNat 0).toNat : Int) == 1) = false := q4
    rw [hby] at this
    intro h1; rw [h1] at this; exact absurd this (by decide)
  have c5 := c_rWrong W0 s ⟨s1.p + 1, 0⟩ 6 x (H.upd_get h x (RR s ⟨s1.p + 1, 0⟩)); rw [H.upd_upd, hst2] at c5
  refine c5.mono ?_
  rintro _ _ ⟨rfl, rfl⟩
  have et : rTruth b s1 = (false, ⟨s1.p + 1, 6⟩) := by rw [ht, decide_eq_false q4, if_pos (by omega)]
  have hne : ¬ (RS.mk (s1.p + 1) 6).e = 0 := Nat.succ_ne_zero 5
  exact kk (⟨⟨#[]⟩, false, n, 0⟩, ⟨s1.p + 1, 6⟩) (by simp only [rCell, e1, if_neg q1, et, rText_err hne, rNum_err hne]; rfl)
end Go.AI

namespace Go.AI
open Go.Proofs Go
variable (W0 : World)
set_option maxRecDepth 20000
set_option maxHeartbeats 2000000

def rowL (k : Str) (c : Cell) (g d : Int) (acc : List V) : LO := .cells [.v (V.s k), .v (V.s c.val), .v (V.b c.dead), .v (V.i c.at_), .v (V.i c.end_), .v (V.i g), .v (V.i d), .own 5 acc]
def row0 : LO := .cells [.v (V.s ⟨#[]⟩), .v (V.s ⟨#[]⟩), .v (V.b false), .v (V.i 0), .v (V.i 0), .v (V.i 0), .v (V.i 0), .own 5 []]
theorem more_conv {k n e : Nat} : ∀ y : Bool, y = (bif decide ((k : Int) < (n : Int)) then ((e : Int) == 0) else false) → (y = true ↔ k < n ∧ e = 0) := by
  rintro y rfl
  simp only [Bool.cond_false_right, Bool.and_eq_true, beq_iff_eq, decide_eq_true_eq]
  omega

theorem c_rrrow (s : Str) (t : RS) (x : Nat) (hb : s.size ≤ 2 ^ 32) (hs : t.ok s.data.toList) (h : H) :
    ACalls Tryz.prog W0 52 [.v (.ptr x 0)] (h.upd x (RR s t)) fun r h' => r = .v (.agg (rRow s.data.toList t).1.v) ∧ h' = h.upd x (RR s (rRow s.data.toList t).2) := by
  obtain ⟨b, hbe⟩ : ∃ b, b = s.data.toList := ⟨_, rfl⟩
  have hl : b.length = s.size := by rw [hbe, str_len]
  have hb45 : s.size ≤ 2 ^ 45 := by omega
  have cT : ∀ (t2 : RS), t2.ok b → _ := fun t2 h2 => c_rrText W0 s t2 x hb45 (hbe ▸ h2) (H.upd_get h x (RR s t2))
  have cN : ∀ (t2 : RS), t2.ok b → _ := fun t2 h2 => c_rrNum W0 s t2 x hb45 (hbe ▸ h2) (H.upd_get h x (RR s t2))
  have cK : ∀ (t2 : RS), t2.ok b → _ := fun t2 h2 => c_rrCount W0 s t2 x hb45 (hbe ▸ h2) (H.upd_get h x (RR s t2))
  have cC : ∀ (t2 : RS), t2.ok b → _ := fun t2 h2 => c_rrcell W0 s t2 x hb45 (hbe ▸ h2) h
  simp only [← hbe, H.upd_upd] at cT cN cK cC
  rw [← hbe] at hs ⊢
  obtain ⟨k, s1, e1⟩ : ∃ n s1, rText b t = (n, s1) := ⟨_, _, rfl⟩
  obtain ⟨c, s2, e2⟩ : ∃ d s2, rCell b s1 = (d, s2) := ⟨_, _, rfl⟩
  obtain ⟨g, s3, e3⟩ : ∃ t s3, rNum b s2 = (t, s3) := ⟨_, _, rfl⟩
  obtain ⟨d, s4, e4⟩ : ∃ e s4, rNum b s3 = (e, s4) := ⟨_, _, rfl⟩
  obtain ⟨n, s5, e5⟩ : ∃ e s5, rCount b s4 = (e, s5) := ⟨_, _, rfl⟩
  have hs1 : s1.ok b := by have := rText_ok hs; rw [e1] at this; exact this
  have hs2 : s2.ok b := by have := rCell_ok hs1; rw [e2] at this; exact this
  have hs3 : s3.ok b := by have := (rNum_ok hs2).1; rw [e3] at this; exact this
  have hs4 : s4.ok b := by have := (rNum_ok hs3).1; rw [e4] at this; exact this
  have hok := rCount_ok hs4; rw [e5] at hok
  have hs5 : s5.ok b := hok.1
  have hn : s5.p + n ≤ b.length := hok.2
  have c1 := cT t hs; rw [e1] at c1
  have c2 := cC s1 hs1; rw [e2] at c2
  have c3 := cN s2 hs2; rw [e3] at c3
  have c4 := cN s3 hs3; rw [e4] at c4
  have c5 := cK s4 hs4; rw [e5] at c5
  have e : rRow b t = (⟨k, c, g, d, (rMany (rCol b) n s5).1⟩, (rMany (rCol b) n s5).2) := by simp only [rRow, rList, e1, e2, e3, e4, e5]
  rw [e]
  refine ACalls.of (C := CO [36] fun i => match i with | 9 => ([0, 1, 2, 3, 4, 5, 6, 7, 8], [9], 1) | _ => ([], [], 0)) (cOkO _ _) hP (fn := Tryz.f52) (by kernel_rfl) (by kernel_rfl) ?_
  refine c1.mono ?_
  rintro _ _ ⟨rfl, rfl⟩
  refine c2.mono ?_
  rintro _ _ ⟨rfl, rfl⟩
  refine c3.mono ?_
  rintro _ _ ⟨rfl, rfl⟩
  refine c4.mono ?_
  rintro _ _ ⟨rfl, rfl⟩
  refine c5.mono ?_
  rintro _ _ ⟨rfl, rfl⟩
  refine ⟨0, [0, 2, 3, 4, 5], 2, fun m xs l h2 => ∃ (acc : List V) (q : Int) (L : List Col) (s2 : RS), xs = [.v (.ptr x 0), .lp 0 0, .lp 1 0, .v (V.i n), .v (V.i q)] ∧ l = [row0, rowL k c g d acc] ∧ h2 = h.upd x (RR s s2) ∧
      q = (L.length : Nat) ∧ acc = L.map (fun c => .agg c.v) ∧ s2.ok b ∧ L.length + m = n ∧ L ++ (rMany (rCol b) m s2).1 = (rMany (rCol b) n s5).1 ∧ (rMany (rCol b) m s2).2 = (rMany (rCol b) n s5).2,
    ⟨n, [], _, [], s5, rfl, rfl, rfl, rfl, rfl, hs5, by show 0 + n = n; omega, rfl, rfl⟩, ?_⟩
  rintro m xs l h2 ⟨acc, q, L, s2, rfl, rfl, rfl, rfl, rfl, hs2, hL, hl1, hl2⟩
  replace hL : L.length + (m : Nat) = n := hL
  refine ⟨_, fun _ => ⟨H.upd_get _ _ _, trivial⟩, ?_⟩
  refine ⟨fun c2 => ?_, fun c2 => ?_⟩
  · obtain ⟨g1, g2⟩ := (more_conv (k := L.length) (n := n) (e := s2.e) _ rfl).1 c2
    cases m with
    | zero => omega
    | succ m =>
    have hm : rMany (rCol b) (m + 1) s2 = ((rCol b s2).1 :: (rMany (rCol b) m (rCol b s2).2).1, (rMany (rCol b) m (rCol b s2).2).2) := by
      simp only [rMany]; rw [if_pos g2]
    rw [hm] at hl1 hl2
    refine (cT s2 hs2).mono ?_
    rintro _ _ ⟨rfl, rfl⟩
    refine ⟨[], fun _ => false, ?_⟩
    refine (cC (rText b s2).2 (rText_ok hs2)).mono ?_
    rintro _ _ ⟨rfl, rfl⟩
    refine ⟨?_, _, rfl, ?_⟩
    · show ((L.map fun c => V.agg c.v).length + 1) * 56 ≤ 70368744177664
      rw [List.length_map]; omega
    refine ⟨by show inI64 ((L.length : Int) + 1); unfold inI64; omega, ?_⟩
    refine ⟨m, by show m < m + 1; omega, _, _, L ++ [(rCol b s2).1], (rCol b s2).2, rfl, rfl, rfl, by simp, by simp; rfl, rCol_ok hs2, by simp; omega, ?_, hl2⟩
    rw [← hl1]; simp
  · replace c2 : ¬ (L.length < n ∧ s2.e = 0) := fun hh => Bool.false_ne_true (c2.symm.trans ((more_conv (k := L.length) (n := n) (e := s2.e) _ rfl).2 hh))
    have hm : rMany (rCol b) m s2 = ([], s2) := by
      cases m with
      | zero => rfl
      | succ m => simp only [rMany]; rw [if_neg (fun h0 => c2 ⟨by omega, h0⟩)]
    rw [hm] at hl1 hl2
    rw [← hl1, ← hl2]
    simp only [List.append_nil]
    exact ⟨rfl, rfl⟩

/-- A partition, without the end. -/
def rPartZ (b : List UInt8) (s : RS) : Part × RS :=
  let k := rText b s
  let g := rNum b k.2
  let l := rList b (rRow b) g.2
  (⟨k.1, g.1, l.1⟩, l.2)
theorem rPartZ_end (b : List UInt8) (s : RS) : rPart b s = ((rPartZ b s).1, rEnd b (rPartZ b s).2) := rfl
theorem rPartZ_ok {b : List UInt8} {s : RS} (h : s.ok b) : (rPartZ b s).2.ok b := by
  have h1 := rText_ok h
  have h2 := (rNum_ok h1).1
  simp only [rPartZ]
  exact rList_ok (one := rRow b) (fun s hs => rRow_ok hs) h2
def part0 : LO := .cells [.v (V.s ⟨#[]⟩), .v (V.i 0), .own 8 []]
def partL (k : Str) (g : Int) (acc : List V) : LO := .cells [.v (V.s k), .v (V.i g), .own 8 acc]

theorem c_rrpart (s : Str) (t : RS) (x : Nat) (hb : s.size ≤ 2 ^ 32) (hs : t.ok s.data.toList) (h : H) :
    ACalls Tryz.prog W0 40 [.v (.ptr x 0)] (h.upd x (RR s t)) fun r h' => r = .v (.agg (rPartZ s.data.toList t).1.v) ∧ h' = h.upd x (RR s (rPartZ s.data.toList t).2) := by
  obtain ⟨b, hbe⟩ : ∃ b, b = s.data.toList := ⟨_, rfl⟩
  have hl : b.length = s.size := by rw [hbe, str_len]
  have hb45 : s.size ≤ 2 ^ 45 := by omega
  have cT : ∀ (t2 : RS), t2.ok b → _ := fun t2 h2 => c_rrText W0 s t2 x hb45 (hbe ▸ h2) (H.upd_get h x (RR s t2))
  have cN : ∀ (t2 : RS), t2.ok b → _ := fun t2 h2 => c_rrNum W0 s t2 x hb45 (hbe ▸ h2) (H.upd_get h x (RR s t2))
  have cK : ∀ (t2 : RS), t2.ok b → _ := fun t2 h2 => c_rrCount W0 s t2 x hb45 (hbe ▸ h2) (H.upd_get h x (RR s t2))
  have cC : ∀ (t2 : RS), t2.ok b → _ := fun t2 h2 => c_rrrow W0 s t2 x hb (hbe ▸ h2) h
  simp only [← hbe, H.upd_upd] at cT cN cK cC
  rw [← hbe] at hs ⊢
  obtain ⟨k, s1, e1⟩ : ∃ n s1, rText b t = (n, s1) := ⟨_, _, rfl⟩
  obtain ⟨g, s3, e3⟩ : ∃ t s3, rNum b s1 = (t, s3) := ⟨_, _, rfl⟩
  obtain ⟨n, s5, e5⟩ : ∃ e s5, rCount b s3 = (e, s5) := ⟨_, _, rfl⟩
  have hs1 : s1.ok b := by have := rText_ok hs; rw [e1] at this; exact this
  have hs3 : s3.ok b := by have := (rNum_ok hs1).1; rw [e3] at this; exact this
  have hok := rCount_ok hs3; rw [e5] at hok
  have hs5 : s5.ok b := hok.1
  have hn : s5.p + n ≤ b.length := hok.2
  have c1 := cT t hs; rw [e1] at c1
  have c3 := cN s1 hs1; rw [e3] at c3
  have c5 := cK s3 hs3; rw [e5] at c5
  have e : rPartZ b t = (⟨k, g, (rMany (rRow b) n s5).1⟩, (rMany (rRow b) n s5).2) := by simp only [rPartZ, rList, e1, e3, e5]
  rw [e]
  refine ACalls.of (C := CO [27] fun i => match i with | 7 => ([0, 1, 2, 3, 4, 5, 6], [7], 1) | _ => ([], [], 0)) (cOkO _ _) hP (fn := Tryz.f40) (by kernel_rfl) (by kernel_rfl) ?_
  refine c1.mono ?_
  rintro _ _ ⟨rfl, rfl⟩
  refine c3.mono ?_
  rintro _ _ ⟨rfl, rfl⟩
  refine c5.mono ?_
  rintro _ _ ⟨rfl, rfl⟩
  refine ⟨0, [0, 2, 3, 4, 5], 2, fun m xs l h2 => ∃ (acc : List V) (q : Int) (L : List Row) (s2 : RS), xs = [.v (.ptr x 0), .lp 0 0, .lp 1 0, .v (V.i n), .v (V.i q)] ∧ l = [part0, partL k g acc] ∧ h2 = h.upd x (RR s s2) ∧
      q = (L.length : Nat) ∧ acc = L.map (fun c => .agg c.v) ∧ s2.ok b ∧ L.length + m = n ∧ L ++ (rMany (rRow b) m s2).1 = (rMany (rRow b) n s5).1 ∧ (rMany (rRow b) m s2).2 = (rMany (rRow b) n s5).2,
    ⟨n, [], _, [], s5, rfl, rfl, rfl, rfl, rfl, hs5, by show 0 + n = n; omega, rfl, rfl⟩, ?_⟩
  rintro m xs l h2 ⟨acc, q, L, s2, rfl, rfl, rfl, rfl, rfl, hs2, hL, hl1, hl2⟩
  replace hL : L.length + (m : Nat) = n := hL
  refine ⟨_, fun _ => ⟨H.upd_get _ _ _, trivial⟩, ?_⟩
  refine ⟨fun c2 => ?_, fun c2 => ?_⟩
  · obtain ⟨g1, g2⟩ := (more_conv (k := L.length) (n := n) (e := s2.e) _ rfl).1 c2
    cases m with
    | zero => omega
    | succ m =>
    have hm : rMany (rRow b) (m + 1) s2 = ((rRow b s2).1 :: (rMany (rRow b) m (rRow b s2).2).1, (rMany (rRow b) m (rRow b s2).2).2) := by
      simp only [rMany]; rw [if_pos g2]
    rw [hm] at hl1 hl2
    refine ⟨[], fun _ => false, ?_⟩
    refine (cC s2 hs2).mono ?_
    rintro _ _ ⟨rfl, rfl⟩
    refine ⟨?_, _, rfl, ?_⟩
    · show ((L.map fun c => V.agg c.v).length + 1) * 96 ≤ 70368744177664
      rw [List.length_map]; omega
    refine ⟨by show inI64 ((L.length : Int) + 1); unfold inI64; omega, ?_⟩
    refine ⟨m, by show m < m + 1; omega, _, _, L ++ [(rRow b s2).1], (rRow b s2).2, rfl, rfl, rfl, by simp, by simp; rfl, rRow_ok hs2, by simp; omega, ?_, hl2⟩
    rw [← hl1]; simp
  · replace c2 : ¬ (L.length < n ∧ s2.e = 0) := fun hh => Bool.false_ne_true (c2.symm.trans ((more_conv (k := L.length) (n := n) (e := s2.e) _ rfl).2 hh))
    have hm : rMany (rRow b) m s2 = ([], s2) := by
      cases m with
      | zero => rfl
      | succ m => simp only [rMany]; rw [if_neg (fun h0 => c2 ⟨by omega, h0⟩)]
    rw [hm] at hl1 hl2
    rw [← hl1, ← hl2]
    simp only [List.append_nil]
    exact ⟨rfl, rfl⟩

theorem c_rrEnd (s : Str) (t : RS) (x : Nat) (hb : s.size ≤ 2 ^ 45) (hs : t.ok s.data.toList) (h : H) :
    ACalls Tryz.prog W0 23 [.v (.ptr x 0)] (h.upd x (RR s t)) fun r h' => r = .v (.tup []) ∧ h' = h.upd x (RR s (rEnd s.data.toList t)) := by
  have hl := str_len s
  have cW := c_rWrong W0 s t 6 x (H.upd_get h x (RR s t))
  rw [H.upd_upd] at cW
  refine ACalls.of (C := CO [] fun i => match i with | 0 => ([0, 1, 2, 3, 4, 5, 6, 7, 8, 9, 10, 11, 12, 13, 14, 15, 16], [], 0) | _ => ([], [], 0)) (cOkO _ _) hP (fn := Tryz.f23) (by kernel_rfl) (by kernel_rfl) ?_
  refine ⟨_, ⟨H.upd_get _ _ _, trivial⟩, ?_⟩
  refine ⟨_, fun _ => ⟨H.upd_get _ _ _, trivial⟩, ?_⟩
  refine ⟨_, fun _ => ⟨H.upd_get _ _ _, trivial⟩, ?_⟩
  have conv : ∀ y : Bool, y = (bif ((t.e : Int) == 0) then decide ((t.p : Int) < (s.size : Int)) else false) → (y = true ↔ t.e = 0 ∧ t.p < s.data.toList.length) := by
    rintro y rfl
    rw [hl]
    simp only [Bool.cond_false_right, Bool.and_eq_true, beq_iff_eq, decide_eq_true_eq]
    omega
  refine ⟨fun c2 => ?_, fun c2 => ?_⟩
  · obtain ⟨g1, g2⟩ := (conv _ rfl).1 c2
    refine cW.mono ?_
    rintro _ _ ⟨rfl, rfl⟩
    refine ⟨rfl, ?_⟩
    unfold rEnd; rw [if_pos g2]
  · replace c2 : ¬ (t.e = 0 ∧ t.p < s.data.toList.length) := fun hh => Bool.false_ne_true (c2.symm.trans ((conv _ rfl).2 hh))
    refine ⟨rfl, ?_⟩
    unfold rEnd
    split
    · rename_i g2
      rw [RS.fail_neg (fun g1 => c2 ⟨g1, g2⟩)]; rfl
    · rfl
end Go.AI

namespace Go.AI
open Go.Proofs Go
variable (W0 : World)
set_option maxRecDepth 20000
set_option maxHeartbeats 2000000

theorem rCount_errE {b : List UInt8} {s : RS} (h : ¬ s.e = 0) : rCount b s = (0, s) := by
  have e1 : rAny b s = (0, s) := rAny_neg h
  simp only [rCount, e1]; simp [h]
theorem rPartZ_err {b : List UInt8} {s : RS} (h : ¬ s.e = 0) : rPartZ b s = (⟨⟨#[]⟩, 0, []⟩, s) := by
  simp only [rPartZ, rList, rText_err h, rNum_err h, rCount_errE h, rMany]; rfl
theorem rEnd_err {b : List UInt8} {s : RS} (h : ¬ s.e = 0) : rEnd b s = s := by
  unfold rEnd; split
  · exact RS.fail_neg h
  · rfl
/-- Whatever else is there stays. -/
def leB (x : Nat) (h h3 : H) : Prop := ∀ y o, y ≠ x → h y = some o → h3 y = some o
theorem leB.le {x : Nat} {h h3 : H} (hl : leB x h h3) (o : HO) : H.le (h.upd x o) (h3.upd x o) := by
  intro y p hy
  by_cases e : y = x
  · subst e; rw [H.upd_get] at hy ⊢; exact hy
  · rw [H.upd_ne _ _ e] at hy ⊢; exact hl y p e hy
theorem leB.upd {x y : Nat} {h h3 : H} (hl : leB x h h3) (o : HO) (hy : h3 y = none) : leB x h (h3.upd y o) := by
  intro z p hz hp
  have := hl z p hz hp
  by_cases e : z = y
  · subst e; rw [hy] at this; cases this
  · rw [H.upd_ne _ _ e]; exact this
theorem rBody_in (b : List UInt8) (s : RS) (hb : (rText b s).1.data.toList.length ≤ 262144) :
    rBody b s = ((rPartZ (rText b s).1.data.toList ⟨0, (rText b s).2.e⟩).1, (rText b s).2.fail (rEnd (rText b s).1.data.toList (rPartZ (rText b s).1.data.toList ⟨0, (rText b s).2.e⟩).2).e) := by
  simp only [rBody]
  by_cases h0 : (rText b s).2.e = 0
  · rw [if_pos h0, h0]
    unfold readPart
    rw [if_neg (by omega), rPartZ_end]
  · rw [if_neg h0]
    have h1 : ¬ (RS.mk 0 (rText b s).2.e).e = 0 := h0
    rw [rPartZ_err h1, rEnd_err h1, RS.fail_neg h0]

theorem c_rrMuts (s : Str) (t : RS) (x : Nat) (hb : s.size ≤ 262144) (hs : t.ok s.data.toList) (h : H) :
    ACalls Tryz.prog W0 20 [.v (.ptr x 0)] (h.upd x (RR s t)) fun r h' =>
      r = .own 4 ((rList s.data.toList (rMut s.data.toList) t).1.map fun m => .agg m.v) ∧ h' = h.upd x (RR s (rList s.data.toList (rMut s.data.toList) t).2) := by
  obtain ⟨b, hbe⟩ : ∃ b, b = s.data.toList := ⟨_, rfl⟩
  have hl : b.length = s.size := by rw [hbe, str_len]
  have hb45 : s.size ≤ 2 ^ 45 := by omega
  have cT : ∀ (g : H) (t2 : RS), t2.ok b → _ := fun g t2 h2 => c_rrText W0 s t2 x hb45 (hbe ▸ h2) (H.upd_get g x (RR s t2))
  have cK : ∀ (t2 : RS), t2.ok b → _ := fun t2 h2 => c_rrCount W0 s t2 x hb45 (hbe ▸ h2) (H.upd_get h x (RR s t2))
  simp only [← hbe, H.upd_upd] at cT cK
  rw [← hbe] at hs ⊢
  obtain ⟨n, s5, e5⟩ : ∃ e s5, rCount b t = (e, s5) := ⟨_, _, rfl⟩
  have hok := rCount_ok hs; rw [e5] at hok
  have hs5 : s5.ok b := hok.1
  have hn : s5.p + n ≤ b.length := hok.2
  have c5 := cK t hs; rw [e5] at c5
  have e : rList b (rMut b) t = rMany (rMut b) n s5 := by simp only [rList, e5]
  rw [e]
  refine ACalls.forget (Q := fun r h' => r = .own 4 ((rMany (rMut b) n s5).1.map fun m => .agg m.v) ∧ ∃ h3, leB x h h3 ∧ h' = h3.upd x (RR s (rMany (rMut b) n s5).2)) ?_ (by rintro a h' ⟨rfl, h3, hle, rfl⟩; exact ⟨_, hle.le _, rfl, rfl⟩)
  refine ACalls.of (C := CO [46, 50] fun _ => ([], [], 0)) (cOkO _ _) hP (fn := Tryz.f20) (by kernel_rfl) (by kernel_rfl) ?_
  refine c5.mono ?_
  rintro _ _ ⟨rfl, rfl⟩
  refine ⟨0, [0, 3, 4, 5], 0, fun m xs l h2 => ∃ (acc : List V) (q : Int) (L : List Mut) (s2 : RS) (h3 : H), xs = [.v (.ptr x 0), .own 4 acc, .v (V.i n), .v (V.i q)] ∧ l = [] ∧ h2 = h3.upd x (RR s s2) ∧
      q = (L.length : Nat) ∧ acc = L.map (fun c => .agg c.v) ∧ leB x h h3 ∧ s2.ok b ∧ L.length + m = n ∧ L ++ (rMany (rMut b) m s2).1 = (rMany (rMut b) n s5).1 ∧ (rMany (rMut b) m s2).2 = (rMany (rMut b) n s5).2,
    ⟨n, [], _, [], s5, h, rfl, rfl, rfl, rfl, rfl, fun _ _ _ h => h, hs5, by show 0 + n = n; omega, rfl, rfl⟩, ?_⟩
  rintro m xs l h2 ⟨acc, q, L, s2, h3, rfl, rfl, rfl, rfl, rfl, hle, hs2, hL, hl1, hl2⟩
  replace hL : L.length + (m : Nat) = n := hL
  refine ⟨_, fun _ => ⟨H.upd_get _ _ _, trivial⟩, ?_⟩
  refine ⟨fun c2 => ?_, fun c2 => ?_⟩
  · obtain ⟨g1, g2⟩ := (more_conv (k := L.length) (n := n) (e := s2.e) _ rfl).1 c2
    cases m with
    | zero => omega
    | succ m =>
    have hm : rMany (rMut b) (m + 1) s2 = ((rMut b s2).1 :: (rMany (rMut b) m (rMut b s2).2).1, (rMany (rMut b) m (rMut b s2).2).2) := by
      simp only [rMany]; rw [if_pos g2]
    rw [hm] at hl1 hl2
    have hq1 := rText_ok hs2
    have hq2 := rText_ok hq1
    have hsz := rText_size b (rText b s2).2
    have hbl := str_len (rText b (rText b s2).2).1
    have hbi := rBody_in b (rText b s2).2 (by omega)
    obtain ⟨⟨tx, s3⟩, e3⟩ : ∃ q, rText b s2 = q := ⟨_, rfl⟩
    rw [e3] at hq1 hq2 hsz hbl hbi
    obtain ⟨⟨body, s4⟩, e4⟩ : ∃ q, rText b s3 = q := ⟨_, rfl⟩
    replace hq2 : (rText b s3).2.ok b := hq2
    replace hsz : (rText b s3).1.size ≤ b.length := hsz
    replace hbl : (rText b s3).1.data.toList.length = (rText b s3).1.size := hbl
    replace hbi : rBody b s3 = ((rPartZ (rText b s3).1.data.toList ⟨0, (rText b s3).2.e⟩).1, (rText b s3).2.fail (rEnd (rText b s3).1.data.toList (rPartZ (rText b s3).1.data.toList ⟨0, (rText b s3).2.e⟩).2).e) := hbi
    rw [e4] at hq2 hsz hbl hbi
    replace hq1 : s3.ok b := hq1
    replace hq2 : s4.ok b := hq2
    replace hsz : body.size ≤ b.length := hsz
    replace hbl : body.data.toList.length = body.size := hbl
    replace hbi : rBody b s3 = ((rPartZ body.data.toList ⟨0, s4.e⟩).1, s4.fail (rEnd body.data.toList (rPartZ body.data.toList ⟨0, s4.e⟩).2).e) := hbi
    have hin : RS.ok body.data.toList ⟨0, s4.e⟩ := ⟨Nat.zero_le _, hq2.2⟩
    have hpk := rPartZ_ok hin
    obtain ⟨⟨P, s6⟩, e6⟩ : ∃ q, rPartZ body.data.toList ⟨0, s4.e⟩ = q := ⟨_, rfl⟩
    rw [e6] at hbi hpk
    replace hbi : rBody b s3 = (P, s4.fail (rEnd body.data.toList s6).e) := hbi
    replace hpk : s6.ok body.data.toList := hpk
    have hmut : rMut b s2 = (⟨tx, P⟩, s4.fail (rEnd body.data.toList s6).e) := by simp only [rMut, e3, hbi]
    have hmok := rMut_ok hs2
    rw [hmut] at hl1 hl2 hmok
    have d1 := cT h3 s2 hs2; rw [e3] at d1
    have d2 := cT h3 s3 hq1; rw [e4] at d2
    refine d1.mono ?_
    rintro _ _ ⟨rfl, rfl⟩
    refine d2.mono ?_
    rintro _ _ ⟨rfl, rfl⟩
    refine ⟨_, ⟨H.upd_get _ _ _, trivial⟩, ?_⟩
    intro y hy
    replace hy : (h3.upd x (RR s s4)) y = none := hy
    have hyx : y ≠ x := by rintro rfl; rw [H.upd_get] at hy; cases hy
    have hy3 : h3 y = none := by rw [H.upd_ne _ _ hyx] at hy; exact hy
    have d3 := c_rrpart W0 body ⟨0, s4.e⟩ y (by omega) hin (h3.upd x (RR s s4)); rw [e6] at d3
    have d4 := c_rrEnd W0 body s6 y (by omega) hpk (h3.upd x (RR s s4))
    refine d3.mono ?_
    rintro _ _ ⟨rfl, rfl⟩
    refine d4.mono ?_
    rintro _ _ ⟨rfl, rfl⟩
    refine ⟨_, ⟨H.upd_get _ _ _, trivial⟩, ?_⟩
    have hcm : ∀ o, (h3.upd x (RR s s4)).upd y o = (h3.upd y o).upd x (RR s s4) := fun o => H.upd_comm _ _ _ (Ne.symm hyx)
    have d5 := c_rWrong W0 s s4 (rEnd body.data.toList s6).e x (H.upd_get (h3.upd y (RR body (rEnd body.data.toList s6))) x (RR s s4))
    rw [H.upd_upd, ← hcm] at d5
    refine d5.mono ?_
    rintro _ _ ⟨rfl, rfl⟩
    refine ⟨?_, _, rfl, ?_⟩
    · show ((L.map fun c => V.agg c.v).length + 1) * 64 ≤ 70368744177664
      rw [List.length_map]; omega
    refine ⟨by show inI64 ((L.length : Int) + 1); unfold inI64; omega, ?_⟩
    refine ⟨m, by show m < m + 1; omega, _, _, L ++ [⟨tx, P⟩], s4.fail (rEnd body.data.toList s6).e, h3.upd y (RR body (rEnd body.data.toList s6)), rfl, rfl, rfl, by simp, by simp; rfl, hle.upd _ hy3, hmok, by simp; omega, ?_, hl2⟩
    rw [← hl1]; simp
  · replace c2 : ¬ (L.length < n ∧ s2.e = 0) := fun hh => Bool.false_ne_true (c2.symm.trans ((more_conv (k := L.length) (n := n) (e := s2.e) _ rfl).2 hh))
    have hm : rMany (rMut b) m s2 = ([], s2) := by
      cases m with
      | zero => rfl
      | succ m => simp only [rMany]; rw [if_neg (fun h0 => c2 ⟨by omega, h0⟩)]
    rw [hm] at hl1 hl2
    rw [← hl1, ← hl2]
    simp only [List.append_nil]
    exact ⟨rfl, h3, hle, rfl⟩
end Go.AI

namespace Go.AI
open Go.Proofs Go
variable (W0 : World)
set_option maxRecDepth 20000
set_option maxHeartbeats 4000000

def msg0 : LO := .cells [.v (V.i 0), .v (V.i 0), .v (V.i 0), .v (V.i 0), .own 4 [], .own 1 [], .v (V.i 0)]
def msgL (k f t i n : Int) (M : List V) (acc : List V) : LO := .cells [.v (V.i k), .v (V.i f), .v (V.i t), .v (V.i i), .own 4 M, .own 1 acc, .v (V.i n)]

theorem c_r21Get (s : Str) (h : H) : ACalls Tryz.prog W0 9 [.v (V.s s)] h fun r h' => r = .v (.tup [.agg (getMsg s).1.v, V.i (getMsg s).2]) ∧ h' = h := by
  have kk : ∀ q : Msg × Nat, getMsg s = q → A.v (.tup [.agg q.1.v, V.i q.2]) = A.v (.tup [.agg (getMsg s).1.v, V.i (getMsg s).2]) := by rintro q rfl; rfl
  obtain ⟨b, hbe⟩ : ∃ b, b = s.data.toList := ⟨_, rfl⟩
  have hbl : b.length = s.size := by rw [hbe, str_len]
  obtain ⟨k, s1, e1⟩ : ∃ n s1, rNum b ⟨0, 0⟩ = (n, s1) := ⟨_, _, rfl⟩
  obtain ⟨f, s2, e2⟩ : ∃ n s2, rNum b s1 = (n, s2) := ⟨_, _, rfl⟩
  obtain ⟨t, s3, e3⟩ : ∃ n s3, rNum b s2 = (n, s3) := ⟨_, _, rfl⟩
  obtain ⟨i, s4, e4⟩ : ∃ n s4, rNum b s3 = (n, s4) := ⟨_, _, rfl⟩
  obtain ⟨n, s5, e5⟩ : ∃ n s5, rNum b s4 = (n, s5) := ⟨_, _, rfl⟩
  obtain ⟨m, s6, e6⟩ : ∃ n s6, rList b (rMut b) s5 = (n, s6) := ⟨_, _, rfl⟩
  obtain ⟨l, s7, e7⟩ : ∃ n s7, rList b (rText b) s6 = (n, s7) := ⟨_, _, rfl⟩
  obtain ⟨cn, s8, e8⟩ : ∃ n s8, rCount b s6 = (n, s8) := ⟨_, _, rfl⟩
  have hs0 : RS.ok b ⟨0, 0⟩ := ⟨Nat.zero_le _, by show (0:Nat) < 16; decide⟩
  have hs1 : s1.ok b := by have := (rNum_ok hs0).1; rw [e1] at this; exact this
  have hs2 : s2.ok b := by have := (rNum_ok hs1).1; rw [e2] at this; exact this
  have hs3 : s3.ok b := by have := (rNum_ok hs2).1; rw [e3] at this; exact this
  have hs4 : s4.ok b := by have := (rNum_ok hs3).1; rw [e4] at this; exact this
  have hs5 : s5.ok b := by have := (rNum_ok hs4).1; rw [e5] at this; exact this
  have hs6 : s6.ok b := by have := rList_ok (one := rMut b) (fun s hs => rMut_ok hs) hs5; rw [e6] at this; exact this
  have hok := rCount_ok hs6; rw [e8] at hok
  have hs8 : s8.ok b := hok.1
  have hn8 : s8.p + cn ≤ b.length := hok.2
  have el : (l, s7) = rMany (rText b) cn s8 := by rw [← e7]; simp only [rList, e8]
  have er : rMsg b ⟨0, 0⟩ = (⟨k, f, t, i, m, l, n⟩, rEnd b s7) := by simp only [rMsg, e1, e2, e3, e4, e5, e6, e7]
  have hs7 : s7.ok b := by have := rList_ok (one := rText b) (fun s hs => rText_ok hs) hs6; rw [e7] at this; exact this
  have hsz : b.length ≤ 2 ^ 40 → (⟨k, f, t, i, m, l, n⟩ : Msg).sized := by
    intro hb x hx
    have e : m = (rList b (rMut b) s5).1 := by rw [e6]
    replace hx : x ∈ (rList b (rMut b) s5).1 := by rw [← e]; exact hx
    obtain ⟨s2, rfl⟩ := rMany_mem _ _ _ _ hx
    exact rMut_sized b hb s2
  have hml : m.length ≤ b.length := by
    have := rList_len b (rMut b) s5; rw [e6] at this; exact this
  have cT : s.size ≤ 2 ^ 45 → ∀ (x : Nat) (t2 : RS), t2.ok b → _ := fun hb x t2 h2 => c_rrText W0 s t2 x hb (hbe ▸ h2) (H.upd_get h x (RR s t2))
  have cN : s.size ≤ 2 ^ 45 → ∀ (x : Nat) (t2 : RS), t2.ok b → _ := fun hb x t2 h2 => c_rrNum W0 s t2 x hb (hbe ▸ h2) (H.upd_get h x (RR s t2))
  have cK : s.size ≤ 2 ^ 45 → ∀ (x : Nat) (t2 : RS), t2.ok b → _ := fun hb x t2 h2 => c_rrCount W0 s t2 x hb (hbe ▸ h2) (H.upd_get h x (RR s t2))
  have cM : s.size ≤ 262144 → ∀ (x : Nat) (t2 : RS), t2.ok b → _ := fun hb x t2 h2 => c_rrMuts W0 s t2 x hb (hbe ▸ h2) h
  have cE : s.size ≤ 2 ^ 45 → ∀ (x : Nat) (t2 : RS), t2.ok b → _ := fun hb x t2 h2 => c_rrEnd W0 s t2 x hb (hbe ▸ h2) h
  simp only [← hbe, H.upd_upd] at cT cN cK cM cE
  have hgm : getMsg s = if 4096 < s.size then (Msg.none, 2) else (if (if checkMsg ⟨k, f, t, i, m, l, n⟩ then rEnd b s7 else (rEnd b s7).fail 1).e = 0 then (⟨k, f, t, i, m, l, n⟩, 0) else (Msg.none, (if checkMsg ⟨k, f, t, i, m, l, n⟩ then rEnd b s7 else (rEnd b s7).fail 1).e)) := by
    unfold getMsg; rw [← hbe, er]
  have hes : (rEnd b s7).ok b := rEnd_ok hs7
  obtain ⟨s9, e9⟩ : ∃ s9, s9 = rEnd b s7 := ⟨_, rfl⟩
  rw [← e9] at hgm hes
  refine ACalls.forget (Q := fun r h' => r = .v (.tup [.agg (getMsg s).1.v, V.i (getMsg s).2]) ∧ H.le h h') ?_ (by rintro a h' ⟨rfl, hle⟩; exact ⟨h, hle, rfl, rfl⟩)
  refine ACalls.of (C := CO [44] fun i => match i with | 10 => ([0, 1, 2, 3, 4, 5, 6], [7], 1) | 15 => ([0, 1, 2, 3, 4, 5, 6], [], 2) | _ => ([], [], 0)) (cOkO _ _) hP (fn := Tryz.f9) (by kernel_rfl) (by kernel_rfl) ?_
  refine ⟨fun c1 => ?_, fun c1 => ?_⟩
  · replace c1 : 4096 < s.size := by
      have : (4096 : Int) < (s.size : Int) := of_decide_eq_true c1
      omega
    exact ⟨kk (Msg.none, 2) (by rw [hgm, if_pos c1]), H.le_refl _⟩
  replace c1 : ¬ 4096 < s.size := by
    have : ¬ (4096 : Int) < (s.size : Int) := of_decide_eq_false c1
    omega
  rw [if_neg c1] at hgm
  replace hsz := hsz (by omega)
  have hb45 : s.size ≤ 2 ^ 45 := by omega
  intro x hx
  replace hx : h x = none := hx
  have hle : ∀ o, H.le h (h.upd x o) := fun o => H.le_upd hx
  have q1 := cN hb45 x ⟨0, 0⟩ hs0; rw [e1] at q1
  have q2 := cN hb45 x s1 hs1; rw [e2] at q2
  have q3 := cN hb45 x s2 hs2; rw [e3] at q3
  have q4 := cN hb45 x s3 hs3; rw [e4] at q4
  have q5 := cN hb45 x s4 hs4; rw [e5] at q5
  have q6 := cM (by omega) x s5 hs5; rw [e6] at q6
  have q7 := cK hb45 x s6 hs6; rw [e8] at q7
  refine q1.mono ?_
  rintro _ _ ⟨rfl, rfl⟩
  refine q2.mono ?_
  rintro _ _ ⟨rfl, rfl⟩
  refine q3.mono ?_
  rintro _ _ ⟨rfl, rfl⟩
  refine q4.mono ?_
  rintro _ _ ⟨rfl, rfl⟩
  refine q5.mono ?_
  rintro _ _ ⟨rfl, rfl⟩
  refine q6.mono ?_
  rintro _ _ ⟨rfl, rfl⟩
  refine q7.mono ?_
  rintro _ _ ⟨rfl, rfl⟩
  refine ⟨0, [2, 4, 5, 6, 7], 3, fun mm xs lo h2 => ∃ (acc : List V) (q : Int) (L : List Str) (s2 : RS), xs = [.lp 0 0, .lp 1 0, .lp 2 0, .v (V.i cn), .v (V.i q)] ∧ lo = [msg0, .fwd x, msgL k f t i n (m.map fun m => .agg m.v) acc] ∧ h2 = h.upd x (RR s s2) ∧
      q = (L.length : Nat) ∧ acc = L.map V.s ∧ s2.ok b ∧ L.length + mm = cn ∧ L ++ (rMany (rText b) mm s2).1 = l ∧ (rMany (rText b) mm s2).2 = s7,
    ⟨cn, [], _, [], s8, rfl, rfl, rfl, rfl, rfl, hs8, by show 0 + cn = cn; omega, by rw [← el]; rfl, by rw [← el]⟩, ?_⟩
  rintro mm xs lo h2 ⟨acc, q, L, s2, rfl, rfl, rfl, rfl, rfl, hs2, hL, hl1, hl2⟩
  replace hL : L.length + (mm : Nat) = cn := hL
  refine ⟨_, fun _ => ⟨H.upd_get _ _ _, trivial⟩, ?_⟩
  refine ⟨fun c2 => ?_, fun c2 => ?_⟩
  · obtain ⟨g1, g2⟩ := (more_conv (k := L.length) (n := cn) (e := s2.e) _ rfl).1 c2
    cases mm with
    | zero => omega
    | succ mm =>
    have hm : rMany (rText b) (mm + 1) s2 = ((rText b s2).1 :: (rMany (rText b) mm (rText b s2).2).1, (rMany (rText b) mm (rText b s2).2).2) := by
      simp only [rMany]; rw [if_pos g2]
    rw [hm] at hl1 hl2
    refine ⟨[], fun _ => false, ?_⟩
    refine (cT hb45 x s2 hs2).mono ?_
    rintro _ _ ⟨rfl, rfl⟩
    refine ⟨?_, _, rfl, ?_⟩
    · show ((L.map V.s).length + 1) * 16 ≤ 70368744177664
      rw [List.length_map]; omega
    refine ⟨by show inI64 ((L.length : Int) + 1); unfold inI64; omega, ?_⟩
    refine ⟨mm, by show mm < mm + 1; omega, _, _, L ++ [(rText b s2).1], (rText b s2).2, rfl, rfl, rfl, by simp, by simp; rfl, rText_ok hs2, by simp; omega, ?_, hl2⟩
    rw [← hl1]; simp
  · replace c2 : ¬ (L.length < cn ∧ s2.e = 0) := fun hh => Bool.false_ne_true (c2.symm.trans ((more_conv (k := L.length) (n := cn) (e := s2.e) _ rfl).2 hh))
    have hm : rMany (rText b) mm s2 = ([], s2) := by
      cases mm with
      | zero => rfl
      | succ mm => simp only [rMany]; rw [if_neg (fun h0 => c2 ⟨by omega, h0⟩)]
    rw [hm] at hl1 hl2
    rw [List.append_nil] at hl1
    subst hl1; subst hl2
    have q8 := cE hb45 x s2 hs2
    rw [← e9] at q8
    refine q8.mono ?_
    rintro _ _ ⟨rfl, rfl⟩
    have cW := c_rWrong W0 s s9 1 x (H.upd_get h x (RR s s9))
    rw [H.upd_upd] at cW
    refine ⟨_, ⟨H.upd_get _ _ _, trivial⟩, ?_⟩
    refine ⟨rfl, V.b (checkMsg ⟨k, f, t, i, m, L, n⟩), fun hg => (c_r21Check W0 ⟨k, f, t, i, m, L, n⟩ hsz (by show m.length ≤ _; omega) _), ?_⟩
    have conv : ∀ y : Bool, y = (bif ((s9.e : Int) == 0) then !checkMsg ⟨k, f, t, i, m, L, n⟩ else false) → (y = true ↔ s9.e = 0 ∧ checkMsg ⟨k, f, t, i, m, L, n⟩ = false) := by
      rintro y rfl
      simp only [Bool.cond_false_right, Bool.and_eq_true, beq_iff_eq, Bool.not_eq_true']
      constructor
      · rintro ⟨q1, q2⟩; exact ⟨by omega, q2⟩
      · rintro ⟨q1, q2⟩; exact ⟨by omega, q2⟩
    generalize checkMsg ⟨k, f, t, i, m, L, n⟩ = ck at conv hgm ⊢
    refine ⟨fun c3 => ?_, fun c3 => ?_⟩
    · obtain ⟨g1, g2⟩ := (conv _ rfl).1 c3
      subst g2
      have hne : ¬ (s9.fail 1).e = 0 := by rw [RS.fail_pos g1]; exact Nat.succ_ne_zero 0
      refine cW.mono ?_
      rintro _ _ ⟨rfl, rfl⟩
      refine ⟨_, ⟨H.upd_get _ _ _, trivial⟩, ?_⟩
      refine ⟨fun c4 => ?_, fun c4 => ?_⟩
      · refine ⟨0, ?_⟩
        refine ⟨_, ⟨H.upd_get _ _ _, trivial⟩, ?_⟩
        exact ⟨kk (Msg.none, (s9.fail 1).e) (by rw [hgm]; simp only [Bool.false_eq_true, if_false, if_neg hne]), hle _⟩
      · exact absurd (en_false c4) hne
    · replace c3 : ¬ (s9.e = 0 ∧ ck = false) := fun hh => Bool.false_ne_true (c3.symm.trans ((conv _ rfl).2 hh))
      refine ⟨_, ⟨H.upd_get _ _ _, trivial⟩, ?_⟩
      refine ⟨fun c4 => ?_, fun c4 => ?_⟩
      · replace c4 := en_true c4
        refine ⟨0, ?_⟩
        refine ⟨_, ⟨H.upd_get _ _ _, trivial⟩, ?_⟩
        refine ⟨kk (Msg.none, s9.e) ?_, hle _⟩
        rw [hgm, RS.fail_neg c4]
        simp only [ite_self, if_neg c4]
      · replace c4 := en_false c4
        have hck : ck = true := by
          cases ck with
          | true => rfl
          | false => exact absurd ⟨c4, rfl⟩ c3
        subst hck
        refine ⟨kk (⟨k, f, t, i, m, L, n⟩, 0) ?_, hle _⟩
        rw [hgm]
        simp only [if_true, if_pos c4]
end Go.AI

namespace Go.AI
open Go.Proofs Go
variable (W0 : World)
set_option maxRecDepth 20000
set_option maxHeartbeats 2000000

theorem doneMsg_v : doneMsg.v = [V.i 2, V.i 0, V.i 0, V.i 0, .sl 4 [], .sl 1 [], V.i 0] := rfl
theorem c_awake (hD : DecC W0) (h : H) : ACalls Tryz.prog W0 5 [] h fun r h' => r = .v (V.b true) ∧ h' = h := by
  have c := c_Put W0 hD doneMsg (fun x hx => by cases hx)
  rw [awake_put, doneMsg_v] at c
  refine ACalls.of (C := CO [] fun _ => ([], [], 0)) (cOkO _ _) hP (fn := Tryz.f5) (by kernel_rfl) (by kernel_rfl) ?_
  refine (c _).mono ?_
  rintro _ _ ⟨rfl, rfl⟩
  refine ⟨congrArg (fun x => A.v (V.b x)) ?_, rfl⟩
  show (bif ((0:Int) == 0) then decide ((⟨#[1, 2, 0, 0, 0, 0, 0, 0]⟩ : ByteArray) = ⟨#[1, 2, 0, 0, 0, 0, 0, 0]⟩) else false) = true
  simp


theorem c_WireAll (hD : DecC W0) (m : Msg) (s : Str) (h : H) : ACalls Tryz.prog W0 3 [.v (.agg m.v), .v (V.s s)] h fun r h' => r = .v (V.b true) ∧ h' = h := by
  have cf := c_few W0 m
  have caw := c_awake W0 hD
  have hsz := @few_sized m
  have cput := c_Put W0 hD m
  have rput := c_r21Put W0 m
  obtain ⟨a, e, hp⟩ : ∃ a e, putMsg m = (a, e) := ⟨_, _, rfl⟩
  rw [hp] at cput rput
  have cg := c_Get W0 hD s
  have rg := c_r21Get W0 s
  have hxs := getMsg_sized s
  obtain ⟨x, g, hg⟩ : ∃ x g, getMsg s = (x, g) := ⟨_, _, rfl⟩
  rw [hg] at cg hxs rg
  have ck := c_checkMsg W0 hD m
  have rk := c_r21Check W0 m
  obtain ⟨c, hc⟩ : ∃ c, checkMsg m = c := ⟨_, rfl⟩
  rw [hc] at ck rk
  refine ACalls.of (C := CO [] fun i => match i with | 7 => ([0, 1, 2, 3, 4, 5, 6, 7, 8, 9, 10, 11, 12, 13, 14, 15, 16, 17, 18, 19, 21, 20, 22, 23, 24, 25, 26, 27, 28], [], 1) | _ => ([], [], 0)) (cOkO _ _) hP (fn := Tryz.f3) (by kernel_rfl) (by kernel_rfl) ?_
  refine (cf _).mono ?_
  rintro _ _ ⟨rfl, rfl⟩
  refine ⟨fun c2 => ?_, fun c2 => ?_⟩
  · refine (caw _).mono ?_
    rintro _ _ ⟨rfl, rfl⟩
    exact ⟨rfl, rfl⟩
  have c3 : fewMsg m = true ∧ s.size ≤ 5000 := by
    have : (bif !fewMsg m then true else decide ((5000:Int) < (s.size : Int))) = false := c2
    cases hf : fewMsg m with
    | false => rw [hf] at this; cases this
    | true =>
      rw [hf] at this
      have : ¬ (5000:Int) < (s.size : Int) := of_decide_eq_false this
      exact ⟨rfl, by omega⟩
  obtain ⟨hms, hm1, hm2⟩ := hsz c3.1
  have hxs := hxs (by omega)
  replace hxs : x.sized ∧ x.muts.length ≤ 2 ^ 60 ∧ x.keys.length ≤ 2 ^ 60 := ⟨hxs.1, by have := hxs.2.1; simp only [] at this; omega, by have := hxs.2.2; simp only [] at this; omega⟩
  refine (cput hms _).mono ?_
  rintro _ _ ⟨rfl, rfl⟩
  refine (rput hms (by omega) _).mono ?_
  rintro _ _ ⟨rfl, rfl⟩
  refine (cg _).mono ?_
  rintro _ _ ⟨rfl, rfl⟩
  refine (rg _).mono ?_
  rintro _ _ ⟨rfl, rfl⟩
  refine ⟨[], fun _ => false, ?_⟩
  refine ⟨rfl, V.b (sameMsg x x), fun hg => c_sameMsg W0 x x hxs.1 hxs.2.1 hxs.2.2 _, ?_⟩
  refine ⟨rfl, V.b c, fun hg => ck hms _, ?_⟩
  refine ⟨rfl, V.b c, fun hg => rk hms (by omega) _, ?_⟩
  refine ⟨rfl, V.b true, fun hg => caw _, ?_⟩
  refine ⟨congrArg (fun x => A.v (V.b x)) ?_, rfl⟩
  show (bif (bif (bif (bif (bif decide (a = a) then ((e : Int) == e) else false) then sameMsg x x else false) then ((g : Int) == g) else false) then (c == c) else false) then true else false) = true
  rw [sameMsg_iff.2 rfl]; simp
end Go.AI

namespace Go.Proofs.YtldpjfopgbeiiaaGreatDoor
open Go Go.ChangeShapes Go.WideShapes Go.ChangeAt Go.WideMaps Go.WideElems Go.RowKit Go.AI
set_option maxRecDepth 100000
set_option maxHeartbeats 2000000

theorem all_lifted (os : Os) (started : os.Started) (H' : Type) (enc : TypeId × Value → H') :
    ReturnsInHanded {} Tryz.checked os 3 .any (fun w args => (Rows.wireAllSpec.pre enc Tryz.prog Tryz.f3 [] false w args ∧ laidMetH Tryz.prog lay w) ∧ sizedMet enc Tryz.prog Tryz.f3 (OpenSpec.ofChange Rows.wireAllSpec) false w args)
      (Rows.wireAllSpec.post enc Tryz.prog Tryz.f3 false true false false) := by
  refine returnsInHanded_of_change_and (C := Tryz.checked) (X := fun w _ => laidMetH Tryz.prog lay w) (fun _ _ _ hh h => h.of_heap hh) own started (by kernel_rfl) Tryz.func3
    (ChangeSpec.witness_shaped (enc := enc) (C := Tryz.checked) (os := os) (X := fun w _ => laidMetH Tryz.prog lay w) false (laidWorld os) #[.agg #[.int .i64 0, .int .i64 0, .int .i64 0, .int .i64 0, .slice none 0 0, .slice none 0 0, .int .i64 0], .string ⟨#[]⟩] 8 rfl (World.shaped_of_RefB (by kernel_rfl) (by kernel_rfl)) (by kernel_rfl) (by kernel_rfl) (by kernel_rfl) (laid_met os _)) ?_
  intro W base args ds gs before hval0 hW _ _ hL _
  have hval : ∀ (j : Nat) t v, Tryz.f3.params[j]? = some t → args[j]? = some v → Value.okWide Tryz.prog W .any base t v := hval0
  have hW' := hW
  obtain ⟨p, q, hA0, hV, rfl, hfz, hnd⟩ := hW
  have hA : DataW.TrodAll enc Tryz.prog W 0 (fun _ => true) true Tryz.f3.params.toList args.toList ds p := hA0
  rw [Tryz.params3] at hA hval
  obtain ⟨v0, v1, d0, d1, p0, p1, rfl, rfl, rfl, h0, h1⟩ := trodAll_two hA
  obtain ⟨rfl, rfl⟩ := trodVars_none hV
  obtain ⟨s, rfl, rfl, rfl, ws⟩ := ChangeMaps.open_string Tryz.underlying9 (hval 1 9 v1 rfl rfl) h1
  obtain ⟨cs, rfl, hcs, _⟩ : ∃ cs, v0 = .agg cs ∧ cs.size = Tryz.prog.cellsOf 25 ∧ Row.okWide Tryz.prog W .any base 25 cs := by
    have := hval 0 25 v0 rfl rfl
    unfold Value.okWide at this
    rw [Tryz.underlying25] at this
    exact this
  obtain ⟨fuel, hf⟩ := h0
  obtain ⟨_, ⟨m, rfl⟩, rc⟩ := o_msg fuel _ _ hf
  have hDc := decC W (tabs hL)
  have hc := (c_WireAll W hDc m s H.empty).start (us := [.agg cs, .string s]) rfl (fun j u a hu ha => by
    match j, hu, ha with
    | 0, hu, ha =>
      cases hu; cases ha
      have e : (Value.agg cs) = .agg (cs.toList.toArray) := by simp
      rw [e]
      exact .v _ _ _ (.agg cs.toList m.v rc.1 rc.2)
    | 1, hu, ha => cases hu; cases ha; exact .v _ _ _ (.lit _)) Tryz.func3 (by kernel_rfl) rfl
  refine Calls.mono hc fun e W' ⟨u, a, h', G', he, hq, hra, hb⟩ => ?_
  obtain ⟨rfl, rfl⟩ := hq
  have hu : u = .bool true := hra.v_inv.lit_inv
  subst hu; subst he
  have hlt : ∀ x ∈ p0, x.block < W.heap.size := fun x hx => by simpa using hW'.lt x (by simp [hx])
  refine ⟨_, rfl, _, _, _, [], p0 ++ [], [], hW', ?_, ?_, rfl, hb.frame _, fun h => by cases h⟩
  · exact trodAll_mk1 (shut_bool Tryz.underlying4 _)
  · exact trodAll_mk2 (Below.trod laidOut (by kernel_rfl) (of_decide_eq_true (by kernel_rfl)) ⟨fuel, hf⟩ hb hlt) (ChangeMaps.shut_string Tryz.underlying9 ws)

theorem wireAll_holds : Rows.WireAllSaid :=
  OpenClaim.holds_of_wide 3 Tryz.f3 rfl rfl rfl rfl rfl rfl rfl ⟨rfl, rfl, rfl, rfl, rfl⟩ rfl rfl rfl rfl rfl (by kernel_rfl) Tryz.func3 (by kernel_rfl)
    (of_decide_eq_true (by kernel_rfl)) (by unfold Func.isWrapper; rw [if_neg (by decide +kernel)]; exact ⟨rfl, rfl⟩)
    (fun os started H enc _ => all_lifted os started H enc)

theorem wireAllCard_holds : Rows.WireAllCardSaid :=
  Claim7.holds_tied_plain_at .later [] [.data, .pinned] true (true, "e0bf813f5e50a1412de57298f240dcac626fd20832e2bfc1e28e5cd37a78fb66") false
    wireAll_holds (fun _ h => by cases h) (by kernel_rfl) (fun _ h => by cases h) wireAll_row_tie rfl ⟨rfl, rfl⟩ (by kernel_rfl) rfl
    (fun f fn hf hfn => by
      obtain rfl : f = 3 := Option.some.inj ((show Tryz.prog.funcNamed "clerestory/clerestorylaw21.WireAll" = some 3 by kernel_rfl).symm.trans hf) |>.symm
      obtain rfl : fn = Tryz.f3 := (Option.some.inj (Tryz.func3.symm.trans hfn)).symm
      exact ⟨by kernel_rfl, fun j t ht => by
        rw [Tryz.params3] at ht
        have hm : t ∈ [25, 9] := by simpa using Array.mem_of_getElem? ht
        have hall : ([25, 9].all fun u => !Tryz.prog.wantsStandIn u) = true := by kernel_rfl
        exact (show Tryz.prog.wantsStandIn t = false by simpa using List.all_eq_true.1 hall t hm)⟩)
    (by kernel_rfl)
end Go.Proofs.YtldpjfopgbeiiaaGreatDoor
