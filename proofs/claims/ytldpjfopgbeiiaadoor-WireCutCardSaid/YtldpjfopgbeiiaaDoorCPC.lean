/- Part of a proof: an interpreter of the loaded code over abstract values, its soundness, and what the functions compute. Nothing is claimed here. -/
import Derived.Test.YtldpjfopgbeiiaaDoorCPB
import Derived.Test.YtldpjfopgbeiiaaDoorProg
import Derived.Lib.TrimU

/- Cells, rows, partitions, messages: there and back. -/
namespace Go.AI
open Go
def canonCell (c : Cell) : Prop := natB c.at_ ∧ natB c.end_ ∧ (c.at_ = 0 → c = ⟨⟨#[]⟩, false, 0, 0⟩) ∧ (c.at_ ≠ 0 → c.dead = true → c.val = ⟨#[]⟩ ∧ c.end_ = 0)
theorem Good.zero {b : List UInt8} {α : Type} {r : RS → α × RS} {enc : α → List UInt8} {ok : α → Prop} (h : Good b r enc ok) {s : RS} (he : (r s).2.e = 0) : s.e = 0 := by
  rcases Nat.eq_zero_or_pos s.e with h0 | h0
  · exact h0
  · exact absurd he (h.stick s (by omega))

theorem good_cell (b : List UInt8) (hb : b.length < 2 ^ 64) : Good b (rCell b) encCell canonCell := by
  have gn := good_num b
  have gt := good_text b hb
  have gd := good_truth b
  refine ⟨fun {p c q} hc hs => ?_, fun {p c q} hp h => ?_, fun s hs => ?_⟩
  · obtain ⟨val, dead, at_, end_⟩ := c
    obtain ⟨⟨h1, h2⟩, ⟨h3, h4⟩, h5, h6⟩ := hc
    replace h1 : 0 ≤ at_ := h1
    replace h2 : at_ ≤ 1099511627776 := h2
    replace h3 : 0 ≤ end_ := h3
    replace h4 : end_ ≤ 1099511627776 := h4
    replace h5 : at_ = 0 → (⟨val, dead, at_, end_⟩ : Cell) = ⟨⟨#[]⟩, false, 0, 0⟩ := h5
    replace h6 : at_ ≠ 0 → dead = true → val = ⟨#[]⟩ ∧ end_ = 0 := h6
    have ha : ((at_.toNat : Nat) : Int) = at_ := by omega
    have hen : ((end_.toNat : Nat) : Int) = end_ := by omega
    unfold encCell at hs
    by_cases c1 : at_ = 0
    · rw [if_pos c1] at hs
      have k1 := gn.fwd (x := at_.toNat) (by omega) hs
      have k2 : at_.toNat = 0 := by omega
      simp only [rCell, k1, if_pos k2]
      rw [h5 c1]
    · rw [if_neg c1] at hs
      have k2 : ¬ at_.toNat = 0 := by omega
      cases dead with
      | true =>
        rw [if_pos rfl] at hs
        obtain ⟨a1, a2⟩ := hs.split
        have k1 := gn.fwd (x := at_.toNat) (by omega) a1
        have k3 := gd.fwd (x := true) trivial a2
        simp only [rCell, k1, if_neg k2, k3, if_true]
        rw [ha, (h6 c1 rfl).1, (h6 c1 rfl).2]
      | false =>
        rw [if_neg Bool.false_ne_true] at hs
        have hs2 : Bs b p q (numB at_.toNat ++ ([0] ++ (encText val ++ numB end_.toNat))) := by simpa using hs
        obtain ⟨a1, a2⟩ := hs2.split
        obtain ⟨a2, a3⟩ := a2.split
        obtain ⟨a3, a4⟩ := a3.split
        have k1 := gn.fwd (x := at_.toNat) (by omega) a1
        have k3 := gd.fwd (x := false) trivial a2
        have k4 := gt.fwd (x := val) trivial a3
        have k5 := gn.fwd (x := end_.toNat) (by omega) a4
        simp only [rCell, k1, if_neg k2, k3, Bool.false_eq_true, if_false, k4, k5]
        rw [ha, hen]
  · obtain ⟨n, s1, e1⟩ : ∃ n s1, rNum b ⟨p, 0⟩ = (n, s1) := ⟨_, _, rfl⟩
    obtain ⟨d, s2, e2⟩ : ∃ d s2, rTruth b s1 = (d, s2) := ⟨_, _, rfl⟩
    obtain ⟨t, s3, e3⟩ : ∃ t s3, rText b s2 = (t, s3) := ⟨_, _, rfl⟩
    obtain ⟨e, s4, e4⟩ : ∃ e s4, rNum b s3 = (e, s4) := ⟨_, _, rfl⟩
    simp only [rCell, e1, e2, e3, e4] at h
    split at h
    · rename_i h0
      simp only [Prod.mk.injEq] at h
      obtain ⟨rfl, rfl⟩ := h
      have k := gn.bwd hp e1
      subst h0
      exact ⟨⟨⟨Int.le_refl 0, by show (0:Int) ≤ 1099511627776; decide⟩, ⟨Int.le_refl 0, by show (0:Int) ≤ 1099511627776; decide⟩, fun _ => rfl, fun h => absurd rfl h⟩, k.2⟩
    · rename_i h0
      have ha : ¬ ((n : Int) = 0) := by omega
      split at h
      · rename_i hd
        simp only [Prod.mk.injEq] at h
        obtain ⟨rfl, rfl⟩ := h
        have z1 : s1.e = 0 := gd.zero (by rw [e2])
        rw [RS.eta0 z1] at e1 e2
        have k1 := gn.bwd hp e1
        have k2 := gd.bwd k1.2.le e2
        rw [hd] at k2
        refine ⟨⟨⟨by show (0:Int) ≤ (n : Int); omega, by show (n : Int) ≤ 1099511627776; have := k1.1; omega⟩, ⟨Int.le_refl 0, by show (0:Int) ≤ 1099511627776; decide⟩, fun h => absurd h ha, fun _ _ => ⟨rfl, rfl⟩⟩, ?_⟩
        unfold encCell
        rw [if_neg ha, if_pos rfl]
        have := k1.2.app k2.2
        exact this
      · rename_i hd
        simp only [Prod.mk.injEq] at h
        obtain ⟨rfl, rfl⟩ := h
        have z3 : s3.e = 0 := gn.zero (by rw [e4])
        have z2 : s2.e = 0 := gt.zero (by rw [e3]; exact z3)
        have z1 : s1.e = 0 := gd.zero (by rw [e2]; exact z2)
        rw [RS.eta0 z1] at e1 e2
        rw [RS.eta0 z2] at e2 e3
        rw [RS.eta0 z3] at e3 e4
        have k1 := gn.bwd hp e1
        have k2 := gd.bwd k1.2.le e2
        have k3 := gt.bwd k2.2.le e3
        have k4 := gn.bwd k3.2.le e4
        rw [if_neg hd] at k2
        refine ⟨⟨⟨by show (0:Int) ≤ (n : Int); omega, by show (n : Int) ≤ 1099511627776; have := k1.1; omega⟩, ⟨by show (0:Int) ≤ (e : Int); omega, by show (e : Int) ≤ 1099511627776; have := k4.1; omega⟩, fun h => absurd h ha, fun _ h => by cases h⟩, ?_⟩
        unfold encCell
        rw [if_neg ha, if_neg Bool.false_ne_true]
        exact ((k1.2.app k2.2).app k3.2).app k4.2
  · obtain ⟨n, s1, e1⟩ : ∃ n s1, rNum b s = (n, s1) := ⟨_, _, rfl⟩
    obtain ⟨d, s2, e2⟩ : ∃ d s2, rTruth b s1 = (d, s2) := ⟨_, _, rfl⟩
    obtain ⟨t, s3, e3⟩ : ∃ t s3, rText b s2 = (t, s3) := ⟨_, _, rfl⟩
    obtain ⟨e, s4, e4⟩ : ∃ e s4, rNum b s3 = (e, s4) := ⟨_, _, rfl⟩
    have h1 := gn.stick s hs
    rw [e1] at h1
    have h2 := gd.stick s1 h1
    rw [e2] at h2
    have h3 := gt.stick s2 h2
    rw [e3] at h3
    have h4 := gn.stick s3 h3
    rw [e4] at h4
    simp only [rCell, e1, e2, e3, e4]
    split
    · exact h1
    · split
      · exact h2
      · exact h4

theorem many_stick {α : Type} {one : RS → α × RS} : ∀ (n : Nat) (s : RS), s.e ≠ 0 → (rMany one n s).2.e ≠ 0 := by
  intro n s hs
  cases n with
  | zero => exact hs
  | succ n => simp only [rMany]; rw [if_neg hs]; exact hs
theorem many_fwd {b : List UInt8} {α : Type} {one : RS → α × RS} {enc : α → List UInt8} {ok : α → Prop} (g : Good b one enc ok) : ∀ (l : List α) (p q : Nat), (∀ x ∈ l, ok x) → Bs b p q (l.flatMap enc) → rMany one l.length ⟨p, 0⟩ = (l, ⟨q, 0⟩) := by
  intro l
  induction l with
  | nil => intro p q _ h; have := h.q; simp at this; subst this; rfl
  | cons x l ih =>
    intro p q ho h
    rw [List.flatMap_cons] at h
    obtain ⟨a1, a2⟩ := h.split
    have k1 := g.fwd (ho x (by simp)) a1
    have k2 := ih _ _ (fun y hy => ho y (by simp [hy])) a2
    simp only [List.length_cons, rMany, k1, k2, if_true]
theorem many_bwd {b : List UInt8} {α : Type} {one : RS → α × RS} {enc : α → List UInt8} {ok : α → Prop} (g : Good b one enc ok) : ∀ (n p : Nat) (l : List α) (q : Nat), p ≤ b.length → rMany one n ⟨p, 0⟩ = (l, ⟨q, 0⟩) → l.length = n ∧ (∀ x ∈ l, ok x) ∧ Bs b p q (l.flatMap enc) := by
  intro n
  induction n with
  | zero =>
    intro p l q hp h
    simp only [rMany, Prod.mk.injEq, RS.mk.injEq, and_true] at h
    obtain ⟨rfl, rfl⟩ := h
    exact ⟨rfl, fun x hx => (by cases hx), Bs.nil hp⟩
  | succ n ih =>
    intro p l q hp h
    obtain ⟨x, s1, e1⟩ : ∃ x s1, one ⟨p, 0⟩ = (x, s1) := ⟨_, _, rfl⟩
    obtain ⟨l2, s2, e2⟩ : ∃ l2 s2, rMany one n s1 = (l2, s2) := ⟨_, _, rfl⟩
    simp only [rMany, e1, e2, if_true, Prod.mk.injEq] at h
    obtain ⟨rfl, rfl⟩ := h
    have z1 : s1.e = 0 := by
      rcases Nat.eq_zero_or_pos s1.e with h0 | h0
      · exact h0
      · have := many_stick (one := one) n s1 (by omega)
        rw [e2] at this
        exact absurd rfl this
    rw [RS.eta0 z1] at e1 e2
    have k1 := g.bwd hp e1
    obtain ⟨k2, k3, k4⟩ := ih _ _ _ k1.2.le e2
    refine ⟨by simp [k2], fun y hy => ?_, by rw [List.flatMap_cons]; exact k1.2.app k4⟩
    rcases List.mem_cons.1 hy with rfl | hy
    · exact k1.1
    · exact k3 y hy
theorem flatMap_ge {α : Type} {enc : α → List UInt8} : ∀ {l : List α}, (∀ x ∈ l, 1 ≤ (enc x).length) → l.length ≤ (l.flatMap enc).length := by
  intro l
  induction l with
  | nil => intro _; exact Nat.le_refl 0
  | cons x l ih =>
    intro h
    have h1 := h x (by simp)
    have h2 := ih fun y hy => h y (by simp [hy])
    rw [List.flatMap_cons, List.length_append, List.length_cons]
    omega
theorem good_list {b : List UInt8} (hb : b.length < 2 ^ 64) {α : Type} {one : RS → α × RS} {enc : α → List UInt8} {ok : α → Prop} (g : Good b one enc ok) (hpos : ∀ x, 1 ≤ (enc x).length) :
    Good b (rList b one) (fun l => numB l.length ++ l.flatMap enc) (fun l => ∀ x ∈ l, ok x) := by
  refine ⟨fun {p l q} hl hs => ?_, fun {p l q} hp h => ?_, fun s hs => ?_⟩
  · obtain ⟨a1, a2⟩ := Bs.split hs
    have h1 := flatMap_ge (l := l) (enc := enc) fun x _ => hpos x
    have h2 := a2.le
    have h3 := a2.q
    have hc := count_fwd (v := l.length) (by omega) a1 (by omega)
    unfold rList
    rw [hc]
    exact many_fwd g l _ _ hl a2
  · obtain ⟨n, s1, e1⟩ : ∃ n s1, rCount b ⟨p, 0⟩ = (n, s1) := ⟨_, _, rfl⟩
    unfold rList at h
    rw [e1] at h
    have z1 : s1.e = 0 := by
      rcases Nat.eq_zero_or_pos s1.e with h0 | h0
      · exact h0
      · have := many_stick (one := one) n s1 (by omega)
        rw [h] at this
        exact absurd rfl this
    rw [RS.eta0 z1] at e1 h
    obtain ⟨k1, k2, k3⟩ := count_bwd e1
    obtain ⟨k4, k5, k6⟩ := many_bwd g n _ l q k2.le h
    refine ⟨k5, ?_⟩
    show Bs b p q (numB l.length ++ l.flatMap enc)
    rw [k4]
    exact k2.app k6
  · exact many_stick _ _ (count_stick b s hs)

theorem numB_pos (v : Nat) : 1 ≤ (numB v).length := by rw [numB_length]; omega
theorem encText_pos (s : Str) : 1 ≤ (encText s).length := by unfold encText; rw [List.length_append]; have := numB_pos s.size; omega

theorem good_col (b : List UInt8) (hb : b.length < 2 ^ 64) : Good b (rCol b) encCol (fun c => canonCell c.cell) := by
  have := ((good_text b hb).seq (good_cell b hb)).map (f := fun x : Str × Cell => (⟨x.1, x.2⟩ : Col)) (e2 := encCol) (o2 := fun c => canonCell c.cell) (fun x => rfl) (fun x h => h.2) (fun y h => ⟨(y.name, y.cell), ⟨trivial, h⟩, rfl⟩)
  exact this
def rowOK (r : Row) : Prop := canonCell r.live ∧ natB r.gone ∧ natB r.shade ∧ ∀ c ∈ r.cols, canonCell c.cell
theorem good_row (b : List UInt8) (hb : b.length < 2 ^ 64) : Good b (rRow b) encRow rowOK := by
  have g := ((good_text b hb).seq ((good_cell b hb).seq ((good_num b).seq ((good_num b).seq (good_list hb (good_col b hb) (fun c => by unfold encCol; rw [List.length_append]; have := encText_pos c.name; omega))))))
  have := g.map (f := fun x => (⟨x.1, x.2.1, (x.2.2.1 : Nat), (x.2.2.2.1 : Nat), x.2.2.2.2⟩ : Row)) (e2 := encRow) (o2 := rowOK)
    (fun x => by simp [encRow]) (fun x h => ⟨h.2.1, ⟨by show (0:Int) ≤ ((x.2.2.1 : Nat) : Int); omega, by show ((x.2.2.1 : Nat) : Int) ≤ 1099511627776; have := h.2.2.1; omega⟩, ⟨by show (0:Int) ≤ ((x.2.2.2.1 : Nat) : Int); omega, by show ((x.2.2.2.1 : Nat) : Int) ≤ 1099511627776; have := h.2.2.2.1; omega⟩, h.2.2.2.2⟩)
    (fun y h => by
      obtain ⟨k, c, g, s, l⟩ := y
      obtain ⟨h1, ⟨h2, h3⟩, ⟨h4, h5⟩, h6⟩ := h
      replace h2 : 0 ≤ g := h2
      replace h3 : g ≤ 1099511627776 := h3
      replace h4 : 0 ≤ s := h4
      replace h5 : s ≤ 1099511627776 := h5
      refine ⟨(k, c, g.toNat, s.toNat, l), ⟨trivial, h1, by show g.toNat ≤ 1099511627776; omega, by show s.toNat ≤ 1099511627776; omega, h6⟩, ?_⟩
      show (⟨k, c, ((g.toNat : Nat) : Int), ((s.toNat : Nat) : Int), l⟩ : Row) = _
      rw [show ((g.toNat : Nat) : Int) = g by omega, show ((s.toNat : Nat) : Int) = s by omega])
  have e : rRow b = mapR (fun x : Str × Cell × Nat × Nat × List Col => (⟨x.1, x.2.1, (x.2.2.1 : Nat), (x.2.2.2.1 : Nat), x.2.2.2.2⟩ : Row)) (seqR (rText b) (seqR (rCell b) (seqR (rNum b) (seqR (rNum b) (rList b (rCol b)))))) := by
    funext s; simp only [rRow, mapR, seqR]
  rw [e]
  exact this
def partOK (p : Part) : Prop := natB p.gone ∧ ∀ r ∈ p.rows, rowOK r
def rPart0 (b : List UInt8) : RS → Part × RS := mapR (fun x : Str × Nat × List Row => (⟨x.1, (x.2.1 : Nat), x.2.2⟩ : Part)) (seqR (rText b) (seqR (rNum b) (rList b (rRow b))))
theorem good_part (b : List UInt8) (hb : b.length < 2 ^ 64) : Good b (rPart0 b) encPart partOK := by
  have g := ((good_text b hb).seq ((good_num b).seq (good_list hb (good_row b hb) (fun r => by unfold encRow; simp only [List.length_append]; have := encText_pos r.key; omega))))
  exact g.map (f := fun x : Str × Nat × List Row => (⟨x.1, (x.2.1 : Nat), x.2.2⟩ : Part)) (e2 := encPart) (o2 := partOK)
    (fun x => by simp [encPart]) (fun x h => ⟨⟨by show (0:Int) ≤ ((x.2.1 : Nat) : Int); omega, by show ((x.2.1 : Nat) : Int) ≤ 1099511627776; have := h.2.1; omega⟩, h.2.2⟩)
    (fun y h => by
      obtain ⟨k, g, l⟩ := y
      obtain ⟨⟨h2, h3⟩, h6⟩ := h
      replace h2 : 0 ≤ g := h2
      replace h3 : g ≤ 1099511627776 := h3
      refine ⟨(k, g.toNat, l), ⟨trivial, by show g.toNat ≤ 1099511627776; omega, h6⟩, ?_⟩
      show (⟨k, ((g.toNat : Nat) : Int), l⟩ : Part) = _
      rw [show ((g.toNat : Nat) : Int) = g by omega])
theorem rPart_eq (b : List UInt8) (s : RS) : rPart b s = ((rPart0 b s).1, rEnd b (rPart0 b s).2) := by simp only [rPart, rPart0, mapR, seqR]
theorem rEnd_zero {b : List UInt8} {s : RS} (hp : s.p ≤ b.length) : (rEnd b s).e = 0 ↔ s = ⟨b.length, 0⟩ := by
  unfold rEnd
  split
  · rename_i h
    constructor
    · intro h0; exact absurd h0 (fail_ne (by decide))
    · intro h0; rw [h0] at h; exact absurd h (Nat.lt_irrefl _)
  · rename_i h
    constructor
    · intro h0; cases s; simp only [] at h h0 hp ⊢; subst h0; congr 1; omega
    · intro h0; rw [h0]
theorem rEnd_at (b : List UInt8) : rEnd b ⟨b.length, 0⟩ = ⟨b.length, 0⟩ := by unfold rEnd; rw [if_neg (Nat.lt_irrefl _)]

theorem readPart_fwd {p : Part} (hp : partOK p) (hl : (encPart p).length ≤ 262144) : readPart (encPart p) = (p, 0) := by
  have g := (good_part (encPart p) (by omega)).fwd (p := 0) (q := (encPart p).length) hp (by have := Bs.of (encPart p) []; rw [List.append_nil] at this; exact this)
  unfold readPart
  rw [if_neg (by omega), rPart_eq, g]
  show (p, (rEnd (encPart p) ⟨(encPart p).length, 0⟩).e) = _
  rw [rEnd_at]
theorem rPart0_ok {b : List UInt8} {s : RS} (h : s.ok b) : (rPart0 b s).2.ok b := by
  have h1 := rText_ok h
  have h2 := (rNum_ok h1).1
  simp only [rPart0, mapR, seqR]
  exact rList_ok (one := rRow b) (fun s hs => rRow_ok hs) h2
theorem readPart_bwd {b : List UInt8} {p : Part} (h : readPart b = (p, 0)) : partOK p ∧ b = encPart p ∧ b.length ≤ 262144 := by
  unfold readPart at h
  by_cases c : 262144 < b.length
  · simp only [if_pos c, Prod.mk.injEq] at h
    obtain ⟨h1, h2⟩ := h
    rw [rPart_eq] at h2
    have := (rEnd_zero (rPart0_ok (b := b) (s := ⟨0, 2⟩) ⟨Nat.zero_le _, by show (2:Nat) < 16; decide⟩).1).1 h2
    exfalso
    -- an error stays
    have hs : (rPart0 b ⟨0, 2⟩).2.e ≠ 0 := by
      have k1 : (rText b ⟨0, 2⟩).2.e ≠ 0 := count_stick b ⟨0, 2⟩ (by decide)
      have k2 := (good_num b).stick _ k1
      simp only [rPart0, mapR, seqR]
      exact many_stick _ _ (count_stick b _ k2)
    rw [this] at hs
    exact hs rfl
  · simp only [if_neg c, Prod.mk.injEq] at h
    obtain ⟨h1, h2⟩ := h
    rw [rPart_eq] at h1 h2
    have e := (rEnd_zero (rPart0_ok (b := b) (s := ⟨0, 0⟩) ⟨Nat.zero_le _, by show (0:Nat) < 16; decide⟩).1).1 h2
    have k := (good_part b (by omega)).bwd (p := 0) (x := p) (q := b.length) (Nat.zero_le _) (by rw [← e, ← h1])
    exact ⟨k.1, Bs.whole k.2, by omega⟩

theorem good_body (b : List UInt8) (hb : b.length < 2 ^ 64) : Good b (rBody b) (fun p => encText ⟨(encPart p).toArray⟩) (fun p => partOK p ∧ (encPart p).length ≤ 262144) := by
  have gt := good_text b hb
  refine ⟨fun {p x q} hx hs => ?_, fun {p x q} hp h => ?_, fun s hs => ?_⟩
  · have k := gt.fwd (x := ⟨(encPart x).toArray⟩) trivial hs
    simp only [rBody, k, if_true, readPart_fwd hx.1 hx.2]
    rfl
  · obtain ⟨t, s1, e1⟩ : ∃ t s1, rText b ⟨p, 0⟩ = (t, s1) := ⟨_, _, rfl⟩
    simp only [rBody, e1] at h
    split at h
    · rename_i z1
      rw [RS.eta0 z1] at e1
      have k := gt.bwd hp e1
      obtain ⟨y, k2, hr⟩ : ∃ y k, readPart t.data.toList = (y, k) := ⟨_, _, rfl⟩
      rw [hr] at h
      simp only [Prod.mk.injEq] at h
      obtain ⟨rfl, h2⟩ := h
      rw [RS.fail_pos z1] at h2
      simp only [RS.mk.injEq] at h2
      obtain ⟨h3, h4⟩ := h2
      subst h4
      obtain ⟨m1, m2, m3⟩ := readPart_bwd hr
      refine ⟨⟨m1, by rw [← m2]; exact m3⟩, ?_⟩
      show Bs b p q (encText ⟨(encPart y).toArray⟩)
      rw [← m2, mk_str, ← h3]
      exact k.2
    · rename_i z1
      simp only [Prod.mk.injEq] at h
      rw [h.2] at z1
      exact absurd rfl z1
  · have k := gt.stick s hs
    simp only [rBody]
    rw [if_neg k]
    exact k
def mutOK (m : Mut) : Prop := partOK m.part ∧ (encPart m.part).length ≤ 262144
theorem good_mut (b : List UInt8) (hb : b.length < 2 ^ 64) : Good b (rMut b) encMut mutOK := by
  have := ((good_text b hb).seq (good_body b hb)).map (f := fun x : Str × Part => (⟨x.1, x.2⟩ : Mut)) (e2 := encMut) (o2 := mutOK) (fun x => rfl) (fun x h => h.2) (fun y h => ⟨(y.table, y.part), ⟨trivial, h⟩, rfl⟩)
  exact this
def msgOK (m : Msg) : Prop := natB m.kind ∧ natB m.frm ∧ natB m.to ∧ natB m.id ∧ natB m.num ∧ ∀ x ∈ m.muts, mutOK x
def rMsg0 (b : List UInt8) : RS → Msg × RS := mapR (fun x : Nat × Nat × Nat × Nat × Nat × List Mut × List Str => (⟨(x.1 : Nat), (x.2.1 : Nat), (x.2.2.1 : Nat), (x.2.2.2.1 : Nat), x.2.2.2.2.2.1, x.2.2.2.2.2.2, (x.2.2.2.2.1 : Nat)⟩ : Msg))
  (seqR (rNum b) (seqR (rNum b) (seqR (rNum b) (seqR (rNum b) (seqR (rNum b) (seqR (rList b (rMut b)) (rList b (rText b))))))))
theorem good_msg (b : List UInt8) (hb : b.length < 2 ^ 64) : Good b (rMsg0 b) encMsg msgOK := by
  have gn := good_num b
  have g := gn.seq (gn.seq (gn.seq (gn.seq (gn.seq ((good_list hb (good_mut b hb) (fun m => by unfold encMut; rw [List.length_append]; have := encText_pos m.table; omega)).seq (good_list hb (good_text b hb) encText_pos))))))
  have nb : ∀ n : Nat, n ≤ 1099511627776 → natB (n : Int) := fun n h => ⟨by omega, by omega⟩
  exact g.map (e2 := encMsg) (o2 := msgOK)
    (fun x => by simp [encMsg]) (fun x h => ⟨nb _ h.1, nb _ h.2.1, nb _ h.2.2.1, nb _ h.2.2.2.1, nb _ h.2.2.2.2.1, h.2.2.2.2.2.1⟩)
    (fun y h => by
      obtain ⟨k, f, t, i, m, l, n⟩ := y
      obtain ⟨⟨h1, g1⟩, ⟨h2, g2⟩, ⟨h3, g3⟩, ⟨h4, g4⟩, ⟨h5, g5⟩, h6⟩ := h
      simp only [] at h1 g1 h2 g2 h3 g3 h4 g4 h5 g5
      refine ⟨(k.toNat, f.toNat, t.toNat, i.toNat, n.toNat, m, l), ⟨by show k.toNat ≤ _; omega, by show f.toNat ≤ _; omega, by show t.toNat ≤ _; omega, by show i.toNat ≤ _; omega, by show n.toNat ≤ _; omega, h6, fun _ _ => trivial⟩, ?_⟩
      show (⟨((k.toNat : Nat) : Int), ((f.toNat : Nat) : Int), ((t.toNat : Nat) : Int), ((i.toNat : Nat) : Int), m, l, ((n.toNat : Nat) : Int)⟩ : Msg) = _
      rw [show ((k.toNat : Nat) : Int) = k by omega, show ((f.toNat : Nat) : Int) = f by omega, show ((t.toNat : Nat) : Int) = t by omega, show ((i.toNat : Nat) : Int) = i by omega, show ((n.toNat : Nat) : Int) = n by omega])
theorem rMsg_eq (b : List UInt8) (s : RS) : rMsg b s = ((rMsg0 b s).1, rEnd b (rMsg0 b s).2) := by simp only [rMsg, rMsg0, mapR, seqR]
end Go.AI

/- What is put is got; what is got is put: plain Lean. -/
namespace Go.AI
open Go
theorem inB_nat {v k : Int} (h : inB v k = true) (hk : k ≤ 1099511627776) : natB v := by
  have : 0 ≤ v ∧ v ≤ k := by simpa [inB] using h
  exact ⟨this.1, by omega⟩
theorem checkCell_canon {c : Cell} (h : checkCell c = true) : canonCell c := by
  have hp := checkCell_pos h
  refine ⟨hp.1, hp.2, fun h0 => ?_, fun h0 hd => ?_⟩
  · unfold checkCell at h
    split at h
    · obtain ⟨val, dead, at_, end_⟩ := c
      simp only [Bool.and_eq_true, decide_eq_true_eq, Bool.not_eq_true'] at h
      obtain ⟨⟨h1, h2⟩, h3⟩ := h
      replace h0 : at_ = 0 := h0
      rw [h1, h2, h3, h0]
    · cases h
  · unfold checkCell at h
    split at h
    · simp only [Bool.and_eq_true, decide_eq_true_eq] at h
      exact h
    · cases h
theorem colsOK_canon : ∀ {l : List Col} {o : Option Str}, colsOK o l = true → ∀ c ∈ l, canonCell c.cell := by
  intro l
  induction l with
  | nil => intro o _ c hc; cases hc
  | cons a r ih =>
    intro o h c hc
    simp only [colsOK, Bool.and_eq_true] at h
    rcases List.mem_cons.1 hc with rfl | hc
    · exact checkCell_canon h.1.1.2
    · exact ih h.2 c hc
theorem checkRow_OK {r : Row} (h : checkRow r = true) : rowOK r := by
  have hp := checkRow_pos h
  simp only [checkRow, Bool.and_eq_true] at h
  exact ⟨checkCell_canon h.1.1.1.1.1.1.2, hp.2.1, hp.2.2.1, colsOK_canon h.2⟩
theorem rowsOK_OK : ∀ {l : List Row} {o : Option Str}, rowsOK o l = true → ∀ c ∈ l, rowOK c := by
  intro l
  induction l with
  | nil => intro o _ c hc; cases hc
  | cons a r ih =>
    intro o h c hc
    simp only [rowsOK, Bool.and_eq_true] at h
    rcases List.mem_cons.1 hc with rfl | hc
    · exact checkRow_OK h.1.1
    · exact ih h.2 c hc
theorem checkPart_OK {p : Part} (h : checkPart p = true) : partOK p := by
  have hp := checkPart_pos h
  simp only [checkPart, Bool.and_eq_true] at h
  exact ⟨hp.1, rowsOK_OK h.2⟩
theorem checkMsg_OK {m : Msg} (h : checkMsg m = true) : msgOK m := by
  simp only [checkMsg, Bool.and_eq_true, decide_eq_true_eq, List.all_eq_true] at h
  obtain ⟨⟨⟨⟨⟨⟨⟨⟨⟨h1, h2⟩, h3⟩, h4⟩, h5⟩, h6⟩, h7⟩, h8⟩, h9⟩, h10⟩ := h
  refine ⟨⟨by omega, by omega⟩, inB_nat h3 (by decide), inB_nat h4 (by decide), inB_nat h5 (by decide), inB_nat h6 (by decide), fun x hx => ?_⟩
  have := (h10 x hx).2
  exact ⟨checkPart_OK this, by have := encPart_le this; omega⟩

theorem putMsg_ok {m : Msg} {a : Str} (h : putMsg m = (a, 0)) : checkMsg m = true ∧ a = ⟨(encMsg m).toArray⟩ ∧ (encMsg m).length ≤ 4096 := by
  unfold putMsg at h
  split at h
  · rename_i hc
    split at h
    · simp only [Prod.mk.injEq] at h; exact absurd h.2 (by decide)
    · rename_i hl
      simp only [Prod.mk.injEq, and_true] at h
      exact ⟨hc, h.symm, by omega⟩
  · simp only [Prod.mk.injEq] at h; exact absurd h.2 (by decide)
theorem rMsg0_fwd {m : Msg} (hm : msgOK m) (post : List UInt8) (hl : (encMsg m ++ post).length < 2 ^ 64) : rMsg0 (encMsg m ++ post) ⟨0, 0⟩ = (m, ⟨(encMsg m).length, 0⟩) :=
  (good_msg (encMsg m ++ post) hl).fwd hm (Bs.of (encMsg m) post)

theorem get_put {m : Msg} {a : Str} (h : putMsg m = (a, 0)) : getMsg a = (m, 0) := by
  obtain ⟨hc, rfl, hl⟩ := putMsg_ok h
  have hr := rMsg0_fwd (checkMsg_OK hc) [] (by rw [List.append_nil]; omega)
  rw [List.append_nil] at hr
  have hs : ¬ 4096 < (⟨(encMsg m).toArray⟩ : Str).size := by rw [mk_size]; omega
  unfold getMsg
  rw [if_neg hs]
  show (let x := rMsg (encMsg m) ⟨0, 0⟩; let e := if checkMsg x.1 then x.2 else x.2.fail 1; if e.e = 0 then (x.1, 0) else (Msg.none, e.e)) = _
  rw [rMsg_eq, hr, rEnd_at]
  simp only [hc, if_true]
theorem get_put_more {m : Msg} {a : Str} (h : putMsg m = (a, 0)) : (getMsg (a ++ ⟨#[0]⟩)).2 = 6 ∨ ((getMsg (a ++ ⟨#[0]⟩)).2 = 2 ∧ 4096 ≤ a.size) := by
  obtain ⟨hc, rfl, hl⟩ := putMsg_ok h
  have hd : ((⟨(encMsg m).toArray⟩ : Str) ++ ⟨#[0]⟩).data.toList = encMsg m ++ [0] := by simp [ByteArray.data_append]
  have hz : ((⟨(encMsg m).toArray⟩ : Str) ++ ⟨#[0]⟩).size = (encMsg m).length + 1 := by rw [← str_len, hd]; simp
  by_cases hb : (encMsg m).length = 4096
  · right
    refine ⟨?_, by rw [mk_size]; omega⟩
    unfold getMsg
    rw [if_pos (by omega)]
  · left
    have hr := rMsg0_fwd (checkMsg_OK hc) [0] (by simp; omega)
    have he : rEnd (encMsg m ++ [0]) ⟨(encMsg m).length, 0⟩ = ⟨(encMsg m).length, 6⟩ := by
      unfold rEnd; rw [if_pos (by simp), RS.fail_pos rfl]
    unfold getMsg
    rw [if_neg (by omega), hd]
    show (let x := rMsg (encMsg m ++ [0]) ⟨0, 0⟩; let e := if checkMsg x.1 then x.2 else x.2.fail 1; if e.e = 0 then (x.1, 0) else (Msg.none, e.e)).2 = _
    rw [rMsg_eq, hr, he]
    simp only [hc, if_true]
    rfl
theorem getMsg_eq (s : Str) : ∃ m e, getMsg s = if e = 0 then (m, 0) else (Msg.none, e) := by
  by_cases hs : 4096 < s.size
  · exact ⟨Msg.none, 2, by unfold getMsg; rw [if_pos hs]; rfl⟩
  · exact ⟨_, _, by unfold getMsg; rw [if_neg hs]⟩
theorem get_none {s : Str} (h : (getMsg s).2 ≠ 0) : (getMsg s).1 = Msg.none := by
  obtain ⟨m, e, he⟩ := getMsg_eq s
  rw [he] at h ⊢
  by_cases h0 : e = 0
  · rw [if_pos h0] at h; exact absurd rfl h
  · rw [if_neg h0]
theorem rMsg0_ok {b : List UInt8} {s : RS} (h : s.ok b) : (rMsg0 b s).2.ok b := by
  have h1 := (rNum_ok h).1
  have h2 := (rNum_ok h1).1
  have h3 := (rNum_ok h2).1
  have h4 := (rNum_ok h3).1
  have h5 := (rNum_ok h4).1
  have h6 := rList_ok (one := rMut b) (fun s hs => rMut_ok hs) h5
  simp only [rMsg0, mapR, seqR]
  exact rList_ok (one := rText b) (fun s hs => rText_ok hs) h6
theorem put_get {s : Str} (h : (getMsg s).2 = 0) : putMsg (getMsg s).1 = (s, 0) ∧ checkMsg (getMsg s).1 = true := by
  obtain ⟨m, r, hr⟩ : ∃ m r, rMsg0 s.data.toList ⟨0, 0⟩ = (m, r) := ⟨_, _, rfl⟩
  have hro : r.ok s.data.toList := by have := rMsg0_ok (b := s.data.toList) (s := ⟨0, 0⟩) ⟨Nat.zero_le _, by show (0:Nat) < 16; decide⟩; rw [hr] at this; exact this
  have hg : getMsg s = if 4096 < s.size then (Msg.none, 2) else (if (if checkMsg m then rEnd s.data.toList r else (rEnd s.data.toList r).fail 1).e = 0 then (m, 0) else (Msg.none, (if checkMsg m then rEnd s.data.toList r else (rEnd s.data.toList r).fail 1).e)) := by
    unfold getMsg; simp only [rMsg_eq, hr]
  rw [hg] at h ⊢
  by_cases hs : 4096 < s.size
  · rw [if_pos hs] at h; exact absurd h (by decide)
  rw [if_neg hs] at h ⊢
  by_cases hc : checkMsg m = true
  · simp only [hc, if_true] at h ⊢
    by_cases h0 : (rEnd s.data.toList r).e = 0
    · rw [if_pos h0] at h ⊢
      have e := (rEnd_zero hro.1).1 h0
      rw [e] at hr
      have k := (good_msg s.data.toList (by rw [str_len]; omega)).bwd (Nat.zero_le _) hr
      have hw := Bs.whole k.2
      refine ⟨?_, hc⟩
      unfold putMsg
      rw [if_pos hc, ← hw, if_neg (by rw [str_len]; omega), mk_str]
    · rw [if_neg h0] at h; exact absurd h h0
  · simp only [hc, Bool.false_eq_true, if_false] at h
    rw [if_neg (fail_ne (by decide))] at h
    exact absurd h (fail_ne (by decide))

def doneMsg : Msg := ⟨2, 0, 0, 0, [], [], 0⟩
theorem awake_put : putMsg doneMsg = (⟨#[1, 2, 0, 0, 0, 0, 0, 0]⟩, 0) := by decide +kernel
end Go.AI

/- A message that is cut anywhere ends too soon: plain Lean. -/
namespace Go.AI
open Go
/-- What is wrong first stays; what is cut ends too soon. -/
structure CutR {α : Type} (r : List UInt8 → RS → α × RS) (enc : α → List UInt8) (ok : α → Prop) : Prop where
  good : ∀ b : List UInt8, b.length < 2 ^ 64 → Good b (r b) enc ok
  stay : ∀ b s, s.e ≠ 0 → (r b s).2.e = s.e
  cut : ∀ {b : List UInt8} {p q k : Nat} {x : α}, b.length < 2 ^ 64 → ok x → Bs b p q (enc x) → p ≤ k → k < q → (r (b.take k) ⟨p, 0⟩).2.e = 8

theorem Bs.cut {b : List UInt8} {p q k : Nat} {xs : List UInt8} (h : Bs b p q xs) (hk : q ≤ k) : Bs (b.take k) p q xs := by
  have hle := h.le
  obtain ⟨h1, h2, t, h3⟩ := h
  refine ⟨by rw [List.length_take]; omega, h2, t.take (k - q), ?_⟩
  rw [List.drop_take, h3, List.take_append, h2]
  have e : xs.take (k - p) = xs := List.take_of_length_le (by omega)
  rw [e]
  congr 2; omega

theorem CutR.seq {α β : Type} {r1 : List UInt8 → RS → α × RS} {r2 : List UInt8 → RS → β × RS} {e1 : α → List UInt8} {e2 : β → List UInt8} {o1 : α → Prop} {o2 : β → Prop} (h1 : CutR r1 e1 o1) (h2 : CutR r2 e2 o2) :
    CutR (fun b => seqR (r1 b) (r2 b)) (fun x => e1 x.1 ++ e2 x.2) (fun x => o1 x.1 ∧ o2 x.2) := by
  refine ⟨fun b hb => (h1.good b hb).seq (h2.good b hb), fun b s hs => ?_, fun {b p q k x} hb ho hs hp hk => ?_⟩
  · have k1 := h1.stay b s hs
    have k2 := h2.stay b (r1 b s).2 (by rw [k1]; exact hs)
    exact k2.trans k1
  · obtain ⟨a1, a2⟩ := hs.split
    have htl : (b.take k).length < 2 ^ 64 := by rw [List.length_take]; omega
    rcases Nat.lt_or_ge k (p + (e1 x.1).length) with hlt | hge
    · have k1 := h1.cut hb ho.1 a1 hp hlt
      have k2 := h2.stay (b.take k) (r1 (b.take k) ⟨p, 0⟩).2 (by rw [k1]; decide)
      exact k2.trans k1
    · have k1 := (h1.good (b.take k) htl).fwd ho.1 (a1.cut hge)
      have k2 := h2.cut hb ho.2 a2 hge hk
      show (r2 (b.take k) (r1 (b.take k) ⟨p, 0⟩).2).2.e = 8
      rw [k1]; exact k2
theorem CutR.map {α β : Type} {r : List UInt8 → RS → α × RS} {e : α → List UInt8} {o : α → Prop} (h : CutR r e o) {f : α → β} {e2 : β → List UInt8} {o2 : β → Prop} (hg : ∀ b : List UInt8, b.length < 2 ^ 64 → Good b (mapR f (r b)) e2 o2) (he : ∀ x, e2 (f x) = e x) (hs : ∀ y, o2 y → ∃ x, o x ∧ f x = y) :
    CutR (fun b => mapR f (r b)) e2 o2 := by
  refine ⟨hg, fun b s hs => h.stay b s hs, fun {b p q k y} hb ho hbs hp hk => ?_⟩
  obtain ⟨x, hx, rfl⟩ := hs y ho
  rw [he] at hbs
  exact h.cut hb hx hbs hp hk

theorem fail_stay {s : RS} {k : Nat} (h : s.e ≠ 0) : (s.fail k).e = s.e := by rw [RS.fail_neg h]
theorem rAny_cut {b : List UInt8} {p q k v : Nat} (hv : v < 2 ^ 64) (h : Bs b p q (numB v)) (hp : p ≤ k) (hk : k < q) : rAny (b.take k) ⟨p, 0⟩ = (0, ⟨p, 8⟩) := by
  have hle := h.le
  have hg : getNum (b.take k) p = (0, 0, 8) := by
    have hlen : (b.take k).length = k := by rw [List.length_take]; omega
    unfold getNum
    rw [hlen, if_neg (by omega)]
    by_cases hpk : p = k
    · rw [if_pos hpk]
    rw [if_neg hpk]
    have hn := nby_le hv
    obtain ⟨a1, a2, t, a3⟩ := h
    rw [numB_length] at a2
    obtain ⟨g1, g2, g3⟩ := drop_cons_get (show b.drop p = UInt8.ofNat (nby v) :: (beB v (nby v) ++ t) from a3)
    have e1 : (b.take k)[p]? = b[p]? := List.getElem?_take_of_lt (by omega)
    have hc : ((b.take k)[p]?.getD 0).toNat = nby v := by rw [e1, g1, UInt8.toNat_ofNat']; omega
    rw [hc, if_neg (by omega), if_neg, if_pos (by omega)]
    rintro ⟨h0, h1, h2⟩
    obtain ⟨n, hn1⟩ : ∃ n, nby v = n + 1 := ⟨nby v - 1, by omega⟩
    have e2 : (b.take k)[p + 1]? = b[p + 1]? := List.getElem?_take_of_lt h1
    rw [hn1] at g2
    have g4 := drop_cons_get (show b.drop (p + 1) = UInt8.ofNat (v / 256 ^ n) :: (beB v n ++ t) from g2)
    rw [e2, g4.1, UInt8.toNat_ofNat'] at h2
    have k1 := nby_ge hn1
    have k2 := nby_lt v
    rw [hn1, Nat.pow_succ, Nat.mul_comm] at k2
    have k3 : v / 256 ^ n < 256 := (Nat.div_lt_iff_lt_mul (pow256_pos n)).2 k2
    have k4 : 0 < v / 256 ^ n := Nat.div_pos k1 (pow256_pos n)
    rw [Nat.mod_eq_of_lt (by omega)] at h2
    omega
  rw [rAny_pos rfl]
  show (if (getNum (b.take k) p).2.2 = 0 then _ else _) = _
  rw [hg, if_neg (by decide)]
theorem rNum_stay (b : List UInt8) (s : RS) (hs : s.e ≠ 0) : rNum b s = (0, s) := by
  unfold rNum
  rw [rAny_neg hs, if_neg (by show ¬ 1099511627776 < 0; omega)]
theorem cut_num : CutR rNum numB (fun v => v ≤ 1099511627776) := by
  refine ⟨fun b _ => good_num b, fun b s hs => by rw [rNum_stay b s hs], fun {b p q k v} hb hv hs hp hk => ?_⟩
  have h := rAny_cut (by omega) hs hp hk
  unfold rNum
  rw [h, if_neg (by show ¬ 1099511627776 < 0; omega)]
theorem rCount_stay (b : List UInt8) (s : RS) (hs : s.e ≠ 0) : rCount b s = (0, s) := rCount_err' (rAny_neg hs) hs
where
  rCount_err' {b : List UInt8} {s s1 : RS} (h : rAny b s = (0, s1)) (hs : ¬ s1.e = 0) : rCount b s = (0, s1) := by
    unfold rCount; rw [h]; simp only [Nat.not_lt_zero, if_false]; rw [if_neg hs]
theorem count_cut {b : List UInt8} {p q k v : Nat} (hv : v < 2 ^ 64) (h : Bs b p q (numB v)) (hp : p ≤ k) (hk : k < q) : (rCount (b.take k) ⟨p, 0⟩) = (0, ⟨p, 8⟩) := by
  have h1 := rAny_cut hv h hp hk
  unfold rCount; rw [h1]; simp only [Nat.not_lt_zero, if_false]; rw [if_neg (by show ¬ (8:Nat) = 0; decide)]
/-- The count is there, what it counts is not. -/
theorem count_short {b : List UInt8} {p q v : Nat} (hv : v < 2 ^ 64) (h : Bs b p q (numB v)) (hl : b.length - q < v) : rCount b ⟨p, 0⟩ = (0, ⟨q, 8⟩) := by
  have h1 := rAny_zero.2 (getNum_fwd hv h)
  unfold rCount
  rw [h1]
  simp only [if_pos hl]
  rw [RS.fail_pos rfl, if_neg (by show ¬ (8:Nat) = 0; decide)]
theorem cut_text : CutR rText encText (fun _ => True) := by
  refine ⟨fun b hb => good_text b hb, fun b s hs => by unfold rText; rw [rCount_stay b s hs], fun {b p q k s} hb _ hs hp hk => ?_⟩
  have hle := hs.le
  obtain ⟨a1, a2⟩ := Bs.split hs
  have hq := a2.q
  have hsl := str_len s
  unfold rText
  rcases Nat.lt_or_ge k (p + (numB s.size).length) with hlt | hge
  · rw [count_cut (v := s.size) (by omega) a1 hp hlt]
  · have := count_short (v := s.size) (b := b.take k) (by omega) (a1.cut hge) (by rw [List.length_take]; omega)
    rw [this]
theorem cut_truth : CutR rTruth (fun d => [if d then 1 else 0]) (fun _ => True) := by
  refine ⟨fun b _ => good_truth b, fun b s hs => by unfold rTruth; rw [if_neg hs], fun {b p q k d} hb _ hs hp hk => ?_⟩
  have hle := hs.le
  have hq := hs.q
  have : k = p := by simp at hq; omega
  subst this
  unfold rTruth
  rw [if_pos rfl, if_pos (by show k = (b.take k).length; rw [List.length_take]; omega)]
theorem cell_stay (b : List UInt8) (s : RS) (hs : s.e ≠ 0) : (rCell b s).2.e = s.e := by
  simp only [rCell, rNum_stay b s hs, if_true]
theorem cut_cell : CutR rCell encCell canonCell := by
  refine ⟨fun b hb => good_cell b hb, cell_stay, fun {b p q k c} hb hc hs hp hk => ?_⟩
  obtain ⟨val, dead, at_, end_⟩ := c
  obtain ⟨⟨h1, h2⟩, ⟨h3, h4⟩, _, _⟩ := hc
  replace h1 : 0 ≤ at_ := h1
  replace h2 : at_ ≤ 1099511627776 := h2
  replace h3 : 0 ≤ end_ := h3
  replace h4 : end_ ≤ 1099511627776 := h4
  have htl : (b.take k).length < 2 ^ 64 := by rw [List.length_take]; omega
  unfold encCell at hs
  by_cases c1 : at_ = 0
  · rw [if_pos c1] at hs
    have e := rAny_cut (v := at_.toNat) (by omega) hs hp hk
    have e2 : rNum (b.take k) ⟨p, 0⟩ = (0, ⟨p, 8⟩) := by unfold rNum; rw [e, if_neg (by show ¬ 1099511627776 < 0; omega)]
    simp only [rCell, e2, if_true]
  rw [if_neg c1] at hs
  have k2 : ¬ at_.toNat = 0 := by omega
  have first : ∀ ys, Bs b p q (numB at_.toNat ++ ys) → k < p + (numB at_.toNat).length → (rCell (b.take k) ⟨p, 0⟩).2.e = 8 := by
    intro ys hs hlt
    have e := rAny_cut (v := at_.toNat) (by omega) hs.split.1 hp hlt
    have e2 : rNum (b.take k) ⟨p, 0⟩ = (0, ⟨p, 8⟩) := by unfold rNum; rw [e, if_neg (by show ¬ 1099511627776 < 0; omega)]
    simp only [rCell, e2, if_true]
  cases dead with
  | true =>
    rw [if_pos rfl] at hs
    rcases Nat.lt_or_ge k (p + (numB at_.toNat).length) with hlt | hge
    · exact first _ hs hlt
    obtain ⟨a1, a2⟩ := hs.split
    have e1 := (good_num (b.take k)).fwd (x := at_.toNat) (by omega) (a1.cut hge)
    have e2 := cut_truth.cut (x := true) hb trivial a2 hge hk
    obtain ⟨d, s, e3⟩ : ∃ d s, rTruth (b.take k) ⟨p + (numB at_.toNat).length, 0⟩ = (d, s) := ⟨_, _, rfl⟩
    rw [e3] at e2
    replace e2 : s.e = 8 := e2
    have hs8 : s.e ≠ 0 := by rw [e2]; decide
    simp only [rCell, e1, if_neg k2, e3]
    split
    · exact e2
    · have t1 : rText (b.take k) s = (⟨(((b.take k).drop s.p).take 0).toArray⟩, ⟨s.p + 0, s.e⟩) := by unfold rText; rw [rCount_stay _ s hs8]
      rw [t1, rNum_stay _ _ (by exact hs8)]
      exact e2
  | false =>
    rw [if_neg Bool.false_ne_true] at hs
    have hs2 : Bs b p q (numB at_.toNat ++ ([0] ++ (encText val ++ numB end_.toNat))) := by simpa using hs
    rcases Nat.lt_or_ge k (p + (numB at_.toNat).length) with hlt | hge
    · exact first _ hs2 hlt
    obtain ⟨a1, a2⟩ := hs2.split
    have e1 := (good_num (b.take k)).fwd (x := at_.toNat) (by omega) (a1.cut hge)
    obtain ⟨a2, a3⟩ := a2.split
    rcases Nat.lt_or_ge k (p + (numB at_.toNat).length + [(0:UInt8)].length) with hlt | hge2
    · have e2 := cut_truth.cut (x := false) hb trivial a2 hge hlt
      obtain ⟨d, s, e3⟩ : ∃ d s, rTruth (b.take k) ⟨p + (numB at_.toNat).length, 0⟩ = (d, s) := ⟨_, _, rfl⟩
      rw [e3] at e2
      replace e2 : s.e = 8 := e2
      have hs8 : s.e ≠ 0 := by rw [e2]; decide
      simp only [rCell, e1, if_neg k2, e3]
      split
      · exact e2
      · have t1 : rText (b.take k) s = (⟨(((b.take k).drop s.p).take 0).toArray⟩, ⟨s.p + 0, s.e⟩) := by unfold rText; rw [rCount_stay _ s hs8]
        rw [t1, rNum_stay _ _ (by exact hs8)]
        exact e2
    have e3 := (good_truth (b.take k)).fwd (x := false) trivial (a2.cut hge2)
    have hseq := (cut_text.seq cut_num).cut (x := (val, end_.toNat)) hb ⟨trivial, by show end_.toNat ≤ 1099511627776; omega⟩ a3 hge2 hk
    simp only [rCell, e1, if_neg k2, e3, Bool.false_eq_true, if_false]
    exact hseq

theorem many_stay {α : Type} {one : RS → α × RS} : ∀ (n : Nat) (s : RS), s.e ≠ 0 → (rMany one n s).2.e = s.e := by
  intro n s hs
  cases n with
  | zero => rfl
  | succ n => simp only [rMany]; rw [if_neg hs]
theorem many_cut {α : Type} {one : List UInt8 → RS → α × RS} {enc : α → List UInt8} {ok : α → Prop} (g : CutR one enc ok) {b : List UInt8} {k : Nat} (hb : b.length < 2 ^ 64) : ∀ (l : List α) (p q : Nat), (∀ x ∈ l, ok x) → Bs b p q (l.flatMap enc) → p ≤ k → k < q → (rMany (one (b.take k)) l.length ⟨p, 0⟩).2.e = 8 := by
  intro l
  induction l with
  | nil => intro p q _ h hp hk; have := h.q; simp at this; omega
  | cons x l ih =>
    intro p q ho h hp hk
    rw [List.flatMap_cons] at h
    obtain ⟨a1, a2⟩ := h.split
    have htl : (b.take k).length < 2 ^ 64 := by rw [List.length_take]; omega
    simp only [List.length_cons, rMany, if_true]
    rcases Nat.lt_or_ge k (p + (enc x).length) with hlt | hge
    · have k1 := g.cut hb (ho x (by simp)) a1 hp hlt
      rw [many_stay _ _ (by rw [k1]; decide)]
      exact k1
    · have k1 := (g.good (b.take k) htl).fwd (ho x (by simp)) (a1.cut hge)
      rw [k1]
      exact ih _ _ (fun y hy => ho y (by simp [hy])) a2 hge hk
theorem cut_list {α : Type} {one : List UInt8 → RS → α × RS} {enc : α → List UInt8} {ok : α → Prop} (g : CutR one enc ok) (hpos : ∀ x, 1 ≤ (enc x).length) :
    CutR (fun b => rList b (one b)) (fun l => numB l.length ++ l.flatMap enc) (fun l => ∀ x ∈ l, ok x) := by
  refine ⟨fun b hb => good_list hb (g.good b hb) hpos, fun b s hs => ?_, fun {b p q k l} hb hl hs hp hk => ?_⟩
  · unfold rList; rw [rCount_stay b s hs]; rfl
  · have hle := hs.le
    obtain ⟨a1, a2⟩ := Bs.split hs
    have h1 := flatMap_ge (l := l) (enc := enc) fun x _ => hpos x
    have h2 := a2.le
    have h3 := a2.q
    show (rMany (one (b.take k)) (rCount (b.take k) ⟨p, 0⟩).1 (rCount (b.take k) ⟨p, 0⟩).2).2.e = 8
    rcases Nat.lt_or_ge k (p + (numB l.length).length) with hlt | hge
    · rw [count_cut (v := l.length) (by omega) a1 hp hlt]; rfl
    · have hlen : (b.take k).length = k := by rw [List.length_take]; omega
      rcases Nat.lt_or_ge (k - (p + (numB l.length).length)) l.length with hs1 | hs1
      · rw [count_short (v := l.length) (b := b.take k) (by omega) (a1.cut hge) (by rw [hlen]; exact hs1)]; rfl
      · rw [count_fwd (v := l.length) (b := b.take k) (by omega) (a1.cut hge) (by rw [hlen]; exact hs1)]
        exact many_cut g hb l _ _ hl a2 hge hk
theorem cut_body : CutR rBody (fun p => encText ⟨(encPart p).toArray⟩) (fun p => partOK p ∧ (encPart p).length ≤ 262144) := by
  refine ⟨fun b hb => good_body b hb, fun b s hs => ?_, fun {b p q k x} hb hx hs hp hk => ?_⟩
  · have := cut_text.stay b s hs
    simp only [rBody]; rw [if_neg (by rw [this]; exact hs)]; exact this
  · have := cut_text.cut (x := ⟨(encPart x).toArray⟩) hb trivial hs hp hk
    simp only [rBody]; rw [if_neg (by rw [this]; decide)]; exact this
theorem cut_mut : CutR rMut encMut mutOK := by
  have h := (cut_text.seq cut_body).map (f := fun x : Str × Part => (⟨x.1, x.2⟩ : Mut)) (e2 := encMut) (o2 := mutOK) (fun b hb => ((good_text b hb).seq (good_body b hb)).map (fun x => rfl) (fun x h => h.2) (fun y h => ⟨(y.table, y.part), ⟨trivial, h⟩, rfl⟩)) (fun x => rfl) (fun y h => ⟨(y.table, y.part), ⟨trivial, h⟩, rfl⟩)
  have e : (fun b => mapR (fun x : Str × Part => (⟨x.1, x.2⟩ : Mut)) (seqR (rText b) (rBody b))) = rMut := by
    funext b s; simp only [rMut, mapR, seqR]
  rw [e] at h
  exact h
theorem cut_msg : CutR rMsg0 encMsg msgOK := by
  have h := cut_num.seq (cut_num.seq (cut_num.seq (cut_num.seq (cut_num.seq ((cut_list cut_mut (fun m => by unfold encMut; rw [List.length_append]; have := encText_pos m.table; omega)).seq (cut_list cut_text encText_pos))))))
  exact h.map (e2 := encMsg) (o2 := msgOK) (fun b hb => good_msg b hb) (fun x => by simp [encMsg]) (fun y h => by
      obtain ⟨k, f, t, i, m, l, n⟩ := y
      obtain ⟨⟨h1, g1⟩, ⟨h2, g2⟩, ⟨h3, g3⟩, ⟨h4, g4⟩, ⟨h5, g5⟩, h6⟩ := h
      simp only [] at h1 g1 h2 g2 h3 g3 h4 g4 h5 g5
      refine ⟨(k.toNat, f.toNat, t.toNat, i.toNat, n.toNat, m, l), ⟨by show k.toNat ≤ _; omega, by show f.toNat ≤ _; omega, by show t.toNat ≤ _; omega, by show i.toNat ≤ _; omega, by show n.toNat ≤ _; omega, h6, fun _ _ => trivial⟩, ?_⟩
      show (⟨((k.toNat : Nat) : Int), ((f.toNat : Nat) : Int), ((t.toNat : Nat) : Int), ((i.toNat : Nat) : Int), m, l, ((n.toNat : Nat) : Int)⟩ : Msg) = _
      rw [show ((k.toNat : Nat) : Int) = k by omega, show ((f.toNat : Nat) : Int) = f by omega, show ((t.toNat : Nat) : Int) = t by omega, show ((i.toNat : Nat) : Int) = i by omega, show ((n.toNat : Nat) : Int) = n by omega])

theorem get_cut {m : Msg} {a : Str} (h : putMsg m = (a, 0)) {k : Nat} (hk : k < a.size) : getMsg ⟨(a.data.toList.take k).toArray⟩ = (Msg.none, 8) := by
  obtain ⟨hc, rfl, hl⟩ := putMsg_ok h
  replace hk : k < (encMsg m).length := hk
  have e8 := cut_msg.cut (b := encMsg m) (p := 0) (q := (encMsg m).length) (k := k) (x := m) (by omega) (checkMsg_OK hc) (by have := Bs.of (encMsg m) []; rw [List.append_nil] at this; exact this) (Nat.zero_le _) hk
  have hz : (⟨((encMsg m).take k).toArray⟩ : Str).size = k := by rw [mk_size, List.length_take]; omega
  obtain ⟨x, s, hx⟩ : ∃ x s, rMsg0 ((encMsg m).take k) ⟨0, 0⟩ = (x, s) := ⟨_, _, rfl⟩
  rw [hx] at e8
  replace e8 : s.e = 8 := e8
  have hne : s.e ≠ 0 := by rw [e8]; decide
  have he : (rEnd ((encMsg m).take k) s).e = 8 := by
    unfold rEnd; split
    · rw [fail_stay hne]; exact e8
    · exact e8
  unfold getMsg
  rw [if_neg (by show ¬ 4096 < (⟨((encMsg m).take k).toArray⟩ : Str).size; rw [hz]; omega)]
  show (let x := rMsg ((encMsg m).take k) ⟨0, 0⟩; let e := if checkMsg x.1 then x.2 else x.2.fail 1; if e.e = 0 then (x.1, 0) else (Msg.none, e.e)) = _
  rw [rMsg_eq, hx]
  simp only []
  have hf : (if checkMsg x = true then rEnd ((encMsg m).take k) s else (rEnd ((encMsg m).take k) s).fail 1).e = 8 := by
    split
    · exact he
    · rw [fail_stay (by rw [he]; decide)]; exact he
  rw [hf, if_neg (by decide)]
end Go.AI

namespace Go.AI
open Go.Proofs Go
def tys : Ty := (.node default (.node ⟨.func, 1, 8, [.lit .nilFunc], []⟩ (.node ⟨.int .i64, 1, 8, [.lit (.int .i64 0)], []⟩ (.node ⟨.struct [⟨0, 1, false, 2⟩, ⟨1, 1, false, 3⟩, ⟨2, 1, false, 4⟩, ⟨3, 1, false, 6⟩] false, 4, 24, [.lit (.int .i64 0), .lit (.int .i64 0), .lit (.bool false), .lit (.int .u8 0)], []⟩ (.node ⟨.ptr 113, 1, 8, [.lit (.pointer none)], []⟩ (.node ⟨.slice 5, 1, 24, [.nl 1], []⟩ (.node ⟨.func, 1, 8, [.lit .nilFunc], []⟩ (.node ⟨.func, 1, 8, [.lit .nilFunc], []⟩ .nil .nil) .nil) (.node ⟨.func, 1, 8, [.lit .nilFunc], []⟩ .nil .nil)) (.node ⟨.func, 1, 8, [.lit .nilFunc], []⟩ (.node ⟨.func, 1, 8, [.lit .nilFunc], []⟩ (.node ⟨.func, 1, 8, [.lit .nilFunc], []⟩ .nil .nil) .nil) (.node ⟨.func, 1, 8, [.lit .nilFunc], []⟩ .nil .nil))) (.node ⟨.slice 9, 1, 24, [.nl 1], []⟩ (.node default (.node ⟨.struct [⟨0, 1, false, 69⟩] false, 1, 8, [.lit (.pointer none)], [("clerestory/wire.get", 65), ("clerestory/wire.put", 66)]⟩ (.node ⟨.func, 1, 8, [.lit .nilFunc], []⟩ .nil .nil) .nil) (.node ⟨.int .u64, 1, 8, [.lit (.int .u64 0)], []⟩ .nil .nil)) (.node ⟨.func, 1, 8, [.lit .nilFunc], []⟩ (.node ⟨.func, 1, 8, [.lit .nilFunc], []⟩ (.node ⟨.func, 1, 8, [.lit .nilFunc], []⟩ .nil .nil) .nil) (.node ⟨.int .u8, 1, 1, [.lit (.int .u8 0)], []⟩ .nil .nil)))) (.node ⟨.str, 1, 16, [.lit (.string ⟨#[]⟩)], []⟩ (.node ⟨.struct [⟨0, 1, false, 17⟩] false, 1, 8, [.lit (.pointer none)], []⟩ (.node ⟨.struct [⟨0, 1, false, 9⟩, ⟨1, 3, true, 34⟩] false, 4, 64, [.lit (.string ⟨#[]⟩), .lit (.string ⟨#[]⟩), .lit (.int .i64 0), .nl 8], []⟩ (.node ⟨.struct [⟨0, 1, false, 43⟩] false, 1, 24, [.nl 1], []⟩ (.node ⟨.func, 1, 8, [.lit .nilFunc], []⟩ .nil .nil) .nil) (.node ⟨.struct [⟨0, 1, false, 9⟩, ⟨1, 4, true, 83⟩] true, 5, 56, [.lit (.string ⟨#[]⟩), .lit (.string ⟨#[]⟩), .lit (.bool false), .lit (.int .i64 0), .lit (.int .i64 0)], []⟩ .nil .nil)) (.node ⟨.func, 1, 8, [.lit .nilFunc], []⟩ (.node ⟨.struct [⟨0, 1, false, 9⟩, ⟨1, 1, false, 4⟩, ⟨2, 1, false, 3⟩, ⟨3, 1, false, 3⟩] true, 4, 40, [.lit (.string ⟨#[]⟩), .lit (.bool false), .lit (.int .i64 0), .lit (.int .i64 0)], []⟩ (.node ⟨.func, 1, 8, [.lit .nilFunc], []⟩ .nil .nil) .nil) (.node ⟨.struct [⟨0, 0, true, 114⟩] false, 0, 0, [], []⟩ .nil .nil))) (.node ⟨.int .i64, 1, 8, [.lit (.int .i64 0)], []⟩ (.node ⟨.slice 3, 1, 24, [.nl 1], []⟩ (.node ⟨.ptr 23, 1, 8, [.lit (.pointer none)], []⟩ (.node ⟨.ptr 142, 1, 8, [.lit (.pointer none)], [("clerestory/pack.any", 94), ("clerestory/pack.cell", 95), ("clerestory/pack.col", 97), ("clerestory/pack.count", 93), ("clerestory/pack.end", 91), ("clerestory/pack.fail", 86), ("clerestory/pack.left", 98), ("clerestory/pack.number", 88), ("clerestory/pack.part", 82), ("clerestory/pack.row", 90), ("clerestory/pack.text", 87), ("clerestory/pack.truth", 99)]⟩ .nil .nil) .nil) (.node ⟨.struct [⟨0, 1, false, 5⟩, ⟨1, 1, false, 5⟩] false, 2, 2, [.lit (.int .u8 0), .lit (.int .u8 0)], []⟩ .nil .nil)) (.node ⟨.struct [⟨0, 1, false, 31⟩, ⟨1, 1, false, 3⟩, ⟨2, 1, false, 27⟩] false, 3, 40, [.nl 1, .lit (.int .i64 0), .lit (.int .i64 0)], []⟩ (.node ⟨.int .u64, 1, 8, [.lit (.int .u64 0)], []⟩ .nil .nil) (.node ⟨.int .i32, 1, 4, [.lit (.int .i32 0)], []⟩ .nil .nil))))) (.node ⟨.int .u8, 1, 1, [.lit (.int .u8 0)], []⟩ (.node ⟨.str, 1, 16, [.lit (.string ⟨#[]⟩)], []⟩ (.node ⟨.ptr 126, 1, 8, [.lit (.pointer none)], []⟩ (.node ⟨.struct [⟨0, 1, false, 9⟩, ⟨1, 1, false, 3⟩, ⟨2, 1, false, 32⟩] false, 3, 48, [.lit (.string ⟨#[]⟩), .lit (.int .i64 0), .nl 8], []⟩ (.node ⟨.ptr 67, 1, 8, [.lit (.pointer none)], [("Cell", 43), ("Next", 34), ("Part", 26), ("Row", 35)]⟩ (.node ⟨.func, 1, 8, [.lit .nilFunc], []⟩ .nil .nil) .nil) (.node ⟨.func, 1, 8, [.lit .nilFunc], []⟩ .nil .nil)) (.node ⟨.iface, 1, 16, [.lit .nilIface], []⟩ (.node ⟨.func, 1, 8, [.lit .nilFunc], []⟩ (.node ⟨.func, 1, 8, [.lit .nilFunc], []⟩ .nil .nil) .nil) (.node ⟨.struct [⟨0, 1, false, 17⟩, ⟨1, 1, false, 17⟩, ⟨2, 1, false, 17⟩, ⟨3, 1, false, 9⟩] false, 4, 40, [.lit (.pointer none), .lit (.pointer none), .lit (.pointer none), .lit (.string ⟨#[]⟩)], []⟩ .nil .nil))) (.node ⟨.struct [⟨0, 1, false, 3⟩, ⟨1, 1, false, 3⟩, ⟨2, 1, false, 3⟩, ⟨3, 1, false, 3⟩, ⟨4, 1, false, 24⟩, ⟨5, 1, false, 23⟩, ⟨6, 1, false, 3⟩] false, 7, 88, [.lit (.int .i64 0), .lit (.int .i64 0), .lit (.int .i64 0), .lit (.int .i64 0), .nl 4, .nl 1, .lit (.int .i64 0)], []⟩ (.node ⟨.func, 1, 8, [.lit .nilFunc], []⟩ (.node ⟨.struct [⟨0, 1, false, 72⟩] false, 1, 8, [.lit (.pointer none)], []⟩ (.node ⟨.func, 1, 8, [.lit .nilFunc], []⟩ .nil .nil) .nil) (.node ⟨.array 256 5, 256, 256, [], []⟩ .nil .nil)) (.node ⟨.func, 1, 8, [.lit .nilFunc], []⟩ (.node ⟨.func, 1, 8, [.lit .nilFunc], []⟩ (.node default .nil .nil) .nil) (.node ⟨.func, 1, 8, [.lit .nilFunc], []⟩ .nil .nil)))) (.node ⟨.struct [⟨0, 1, false, 9⟩, ⟨1, 1, false, 12⟩] false, 2, 24, [.lit (.string ⟨#[]⟩), .lit (.int .u64 0)], []⟩ (.node ⟨.int .i32, 1, 4, [.lit (.int .i32 0)], []⟩ (.node ⟨.func, 1, 8, [.lit .nilFunc], []⟩ (.node ⟨.ptr 3, 1, 8, [.lit (.pointer none)], []⟩ (.node default .nil .nil) .nil) (.node ⟨.func, 1, 8, [.lit .nilFunc], []⟩ .nil .nil)) (.node ⟨.func, 1, 8, [.lit .nilFunc], []⟩ (.node ⟨.struct [⟨0, 1, false, 9⟩, ⟨1, 4, true, 83⟩, ⟨5, 1, false, 3⟩, ⟨6, 1, false, 3⟩, ⟨7, 1, false, 84⟩] false, 8, 96, [.lit (.string ⟨#[]⟩), .lit (.string ⟨#[]⟩), .lit (.bool false), .lit (.int .i64 0), .lit (.int .i64 0), .lit (.int .i64 0), .lit (.int .i64 0), .nl 5], []⟩ (.node ⟨.func, 1, 8, [.lit .nilFunc], []⟩ .nil .nil) .nil) (.node ⟨.func, 1, 8, [.lit .nilFunc], []⟩ .nil .nil))) (.node ⟨.func, 1, 8, [.lit .nilFunc], []⟩ (.node ⟨.func, 1, 8, [.lit .nilFunc], []⟩ (.node ⟨.struct [⟨0, 1, false, 75⟩] false, 1, 8, [.lit (.pointer none)], [("clerestory/wire.get", 100), ("clerestory/wire.put", 101)]⟩ (.node ⟨.struct [⟨0, 1, false, 31⟩, ⟨1, 1, false, 3⟩, ⟨2, 1, false, 27⟩] false, 3, 40, [.nl 1, .lit (.int .i64 0), .lit (.int .i64 0)], []⟩ .nil .nil) .nil) (.node ⟨.func, 1, 8, [.lit .nilFunc], []⟩ .nil .nil)) (.node ⟨.func, 1, 8, [.lit .nilFunc], []⟩ (.node ⟨.func, 1, 8, [.lit .nilFunc], []⟩ .nil .nil) (.node ⟨.struct [⟨0, 1, false, 12⟩, ⟨1, 1, false, 12⟩, ⟨2, 1, false, 118⟩, ⟨3, 1, false, 119⟩, ⟨4, 1, false, 5⟩, ⟨5, 1, false, 5⟩, ⟨6, 1, false, 120⟩, ⟨7, 1, false, 121⟩, ⟨8, 1, false, 122⟩, ⟨9, 1, false, 123⟩, ⟨10, 1, false, 124⟩] false, 11, 48, [.lit (.int .u64 0), .lit (.int .u64 0), .lit (.int .u32 0), .lit (.int .u8 0), .lit (.int .u8 0), .lit (.int .u8 0), .lit (.int .u8 0), .lit .nilFunc, .lit (.pointer none), .lit (.int .i32 0), .lit (.int .i32 0)], []⟩ .nil .nil)))))) (.node ⟨.int .i64, 1, 8, [.lit (.int .i64 0)], []⟩ (.node ⟨.bool, 1, 1, [.lit (.bool false)], []⟩ (.node ⟨.struct [⟨0, 1, false, 2⟩, ⟨1, 1, false, 3⟩, ⟨2, 1, false, 4⟩, ⟨3, 1, false, 6⟩] false, 4, 24, [.lit (.int .i64 0), .lit (.int .i64 0), .lit (.bool false), .lit (.int .u8 0)], []⟩ (.node ⟨.ptr 116, 1, 8, [.lit (.pointer none)], []⟩ (.node ⟨.slice 86, 1, 24, [.nl 8], []⟩ (.node ⟨.func, 1, 8, [.lit .nilFunc], []⟩ (.node ⟨.func, 1, 8, [.lit .nilFunc], []⟩ .nil .nil) .nil) (.node ⟨.func, 1, 8, [.lit .nilFunc], []⟩ .nil .nil)) (.node ⟨.ptr 26, 1, 8, [.lit (.pointer none)], []⟩ (.node ⟨.func, 1, 8, [.lit .nilFunc], []⟩ (.node ⟨.func, 1, 8, [.lit .nilFunc], []⟩ .nil .nil) .nil) (.node ⟨.struct [⟨0, 1, false, 17⟩, ⟨1, 1, false, 17⟩, ⟨2, 1, false, 17⟩, ⟨3, 1, false, 9⟩] false, 4, 40, [.lit (.pointer none), .lit (.pointer none), .lit (.pointer none), .lit (.string ⟨#[]⟩)], []⟩ .nil .nil))) (.node ⟨.slice 36, 1, 24, [.nl 4], []⟩ (.node ⟨.func, 1, 8, [.lit .nilFunc], []⟩ (.node ⟨.ptr 24, 1, 8, [.lit (.pointer none)], []⟩ (.node default .nil .nil) .nil) (.node ⟨.func, 1, 8, [.lit .nilFunc], []⟩ .nil .nil)) (.node ⟨.func, 1, 8, [.lit .nilFunc], []⟩ (.node ⟨.func, 1, 8, [.lit .nilFunc], []⟩ (.node ⟨.func, 1, 8, [.lit .nilFunc], []⟩ .nil .nil) .nil) (.node ⟨.int .u8, 1, 1, [.lit (.int .u8 0)], []⟩ .nil .nil)))) (.node ⟨.int .u64, 1, 8, [.lit (.int .u64 0)], []⟩ (.node ⟨.iface, 1, 16, [.lit .nilIface], []⟩ (.node ⟨.struct [⟨0, 1, false, 9⟩, ⟨1, 3, true, 34⟩] false, 4, 64, [.lit (.string ⟨#[]⟩), .lit (.string ⟨#[]⟩), .lit (.int .i64 0), .nl 8], []⟩ (.node ⟨.func, 1, 8, [.lit .nilFunc], []⟩ (.node ⟨.func, 1, 8, [.lit .nilFunc], []⟩ .nil .nil) .nil) (.node ⟨.func, 1, 8, [.lit .nilFunc], []⟩ .nil .nil)) (.node ⟨.func, 1, 8, [.lit .nilFunc], []⟩ (.node ⟨.slice 99, 1, 24, [.nl 5], []⟩ (.node ⟨.func, 1, 8, [.lit .nilFunc], []⟩ .nil .nil) .nil) (.node ⟨.struct [⟨0, 0, true, 114⟩] false, 0, 0, [], []⟩ .nil .nil))) (.node default (.node ⟨.func, 1, 8, [.lit .nilFunc], []⟩ (.node ⟨.struct [⟨0, 1, false, 75⟩] false, 1, 8, [.lit (.pointer none)], []⟩ (.node ⟨.func, 1, 8, [.lit .nilFunc], []⟩ .nil .nil) .nil) (.node ⟨.array 16 107, 32, 32, [.lit (.int .u8 0), .lit (.int .u8 0), .lit (.int .u8 0), .lit (.int .u8 0), .lit (.int .u8 0), .lit (.int .u8 0), .lit (.int .u8 0), .lit (.int .u8 0), .lit (.int .u8 0), .lit (.int .u8 0), .lit (.int .u8 0), .lit (.int .u8 0), .lit (.int .u8 0), .lit (.int .u8 0), .lit (.int .u8 0), .lit (.int .u8 0), .lit (.int .u8 0), .lit (.int .u8 0), .lit (.int .u8 0), .lit (.int .u8 0), .lit (.int .u8 0), .lit (.int .u8 0), .lit (.int .u8 0), .lit (.int .u8 0), .lit (.int .u8 0), .lit (.int .u8 0), .lit (.int .u8 0), .lit (.int .u8 0), .lit (.int .u8 0), .lit (.int .u8 0), .lit (.int .u8 0), .lit (.int .u8 0)], []⟩ .nil .nil)) (.node ⟨.struct [⟨0, 1, false, 31⟩, ⟨1, 1, false, 3⟩, ⟨2, 1, false, 27⟩] false, 3, 40, [.nl 1, .lit (.int .i64 0), .lit (.int .i64 0)], []⟩ (.node ⟨.func, 1, 8, [.lit .nilFunc], []⟩ .nil .nil) (.node ⟨.int .i32, 1, 4, [.lit (.int .i32 0)], []⟩ .nil .nil))))) (.node ⟨.int .u8, 1, 1, [.lit (.int .u8 0)], []⟩ (.node ⟨.str, 1, 16, [.lit (.string ⟨#[]⟩)], []⟩ (.node ⟨.struct [⟨0, 1, false, 17⟩] false, 1, 8, [.lit (.pointer none)], []⟩ (.node ⟨.struct [⟨0, 1, false, 9⟩, ⟨1, 1, false, 3⟩, ⟨2, 1, false, 32⟩] false, 3, 48, [.lit (.string ⟨#[]⟩), .lit (.int .i64 0), .nl 8], []⟩ (.node ⟨.struct [⟨0, 1, false, 43⟩] false, 1, 24, [.nl 1], []⟩ (.node default .nil .nil) .nil) (.node ⟨.struct [⟨0, 1, false, 9⟩, ⟨1, 4, true, 83⟩] true, 5, 56, [.lit (.string ⟨#[]⟩), .lit (.string ⟨#[]⟩), .lit (.bool false), .lit (.int .i64 0), .lit (.int .i64 0)], []⟩ .nil .nil)) (.node ⟨.iface, 1, 16, [.lit .nilIface], []⟩ (.node ⟨.struct [⟨0, 1, false, 9⟩, ⟨1, 1, false, 4⟩, ⟨2, 1, false, 3⟩, ⟨3, 1, false, 3⟩] true, 4, 40, [.lit (.string ⟨#[]⟩), .lit (.bool false), .lit (.int .i64 0), .lit (.int .i64 0)], []⟩ (.node ⟨.func, 1, 8, [.lit .nilFunc], []⟩ .nil .nil) .nil) (.node ⟨.array 0 16, 0, 0, [], []⟩ .nil .nil))) (.node ⟨.struct [⟨0, 1, false, 3⟩, ⟨1, 1, false, 3⟩, ⟨2, 1, false, 3⟩, ⟨3, 1, false, 3⟩, ⟨4, 1, false, 24⟩, ⟨5, 1, false, 23⟩, ⟨6, 1, false, 3⟩] false, 7, 88, [.lit (.int .i64 0), .lit (.int .i64 0), .lit (.int .i64 0), .lit (.int .i64 0), .nl 4, .nl 1, .lit (.int .i64 0)], []⟩ (.node ⟨.func, 1, 8, [.lit .nilFunc], []⟩ (.node ⟨.struct [⟨0, 1, false, 72⟩] false, 1, 8, [.lit (.pointer none)], [("clerestory/wire.get", 73), ("clerestory/wire.put", 74)]⟩ (.node ⟨.func, 1, 8, [.lit .nilFunc], []⟩ .nil .nil) .nil) (.node ⟨.struct [⟨0, 1, false, 5⟩, ⟨1, 1, false, 5⟩] false, 2, 2, [.lit (.int .u8 0), .lit (.int .u8 0)], []⟩ .nil .nil)) (.node ⟨.ptr 60, 1, 8, [.lit (.pointer none)], [("clerestory/wire.any", 69), ("clerestory/wire.count", 64), ("clerestory/wire.fail", 23), ("clerestory/wire.number", 67), ("clerestory/wire.part", 76), ("clerestory/wire.text", 75)]⟩ (.node ⟨.func, 1, 8, [.lit .nilFunc], []⟩ .nil .nil) (.node ⟨.ptr 5, 1, 8, [.lit (.pointer none)], []⟩ .nil .nil)))) (.node ⟨.struct [⟨0, 1, false, 9⟩, ⟨1, 1, false, 12⟩] false, 2, 24, [.lit (.string ⟨#[]⟩), .lit (.int .u64 0)], []⟩ (.node ⟨.func, 1, 8, [.lit .nilFunc], []⟩ (.node ⟨.func, 1, 8, [.lit .nilFunc], []⟩ (.node ⟨.struct [⟨0, 1, false, 69⟩] false, 1, 8, [.lit (.pointer none)], []⟩ (.node ⟨.func, 1, 8, [.lit .nilFunc], []⟩ .nil .nil) .nil) (.node ⟨.func, 1, 8, [.lit .nilFunc], []⟩ .nil .nil)) (.node ⟨.func, 1, 8, [.lit .nilFunc], []⟩ (.node ⟨.struct [⟨0, 1, false, 9⟩, ⟨1, 4, true, 83⟩, ⟨5, 1, false, 3⟩, ⟨6, 1, false, 3⟩, ⟨7, 1, false, 84⟩] false, 8, 96, [.lit (.string ⟨#[]⟩), .lit (.string ⟨#[]⟩), .lit (.bool false), .lit (.int .i64 0), .lit (.int .i64 0), .lit (.int .i64 0), .lit (.int .i64 0), .nl 5], []⟩ (.node ⟨.func, 1, 8, [.lit .nilFunc], []⟩ .nil .nil) .nil) (.node ⟨.int .u32, 1, 4, [.lit (.int .u32 0)], []⟩ .nil .nil))) (.node ⟨.func, 1, 8, [.lit .nilFunc], []⟩ (.node ⟨.slice 50, 1, 24, [.nl 1], []⟩ (.node ⟨.func, 1, 8, [.lit .nilFunc], []⟩ (.node ⟨.struct [⟨0, 1, false, 31⟩, ⟨1, 1, false, 3⟩, ⟨2, 1, false, 27⟩] false, 3, 40, [.nl 1, .lit (.int .i64 0), .lit (.int .i64 0)], []⟩ .nil .nil) .nil) (.node ⟨.func, 1, 8, [.lit .nilFunc], []⟩ .nil .nil)) (.node ⟨.func, 1, 8, [.lit .nilFunc], []⟩ (.node default .nil .nil) (.node ⟨.struct [⟨0, 1, false, 12⟩, ⟨1, 1, false, 12⟩, ⟨2, 1, false, 118⟩, ⟨3, 1, false, 119⟩, ⟨4, 1, false, 5⟩, ⟨5, 1, false, 5⟩, ⟨6, 1, false, 120⟩, ⟨7, 1, false, 121⟩, ⟨8, 1, false, 122⟩, ⟨9, 1, false, 123⟩, ⟨10, 1, false, 124⟩] false, 11, 48, [.lit (.int .u64 0), .lit (.int .u64 0), .lit (.int .u32 0), .lit (.int .u8 0), .lit (.int .u8 0), .lit (.int .u8 0), .lit (.int .u8 0), .lit .nilFunc, .lit (.pointer none), .lit (.int .i32 0), .lit (.int .i32 0)], []⟩ .nil .nil)))))))
def CZ0 : Ctx := { n := 154, ty := tys, κ := fun _ => false, ord := fun _ => ([], [], 0) }
theorem ctxOk0 : CtxOk Tryd.prog CZ0 := ctxOk_of (by kernel_rfl) (by kernel_rfl)
theorem hP : Tryd.prog.follows .mixedOrders = true := by kernel_rfl
def CO (l : List Nat) (od : Nat → List Nat × List Nat × Nat) : Ctx := { CZ0 with κ := fun s => l.any (Nat.beq s), ord := od }
theorem cOkO (l : List Nat) (od : Nat → List Nat × List Nat × Nat) : CtxOk Tryd.prog (CO l od) := ctxOk0
end Go.AI

namespace Go.AI
open Go.Proofs Go
variable (W0 : World)
set_option maxRecDepth 20000

theorem c_own (b : List V) (h : H) : ACalls Tryd.prog W0 71 [.v (.sl 1 b)] h fun r h' => r = .own 1 b ∧ h' = h := by
  refine ACalls.of (C := CO [] fun _ => ([], [], 0)) (cOkO _ _) hP (fn := Tryd.f71) (by kernel_rfl) (by kernel_rfl) ?_
  refine ⟨⟨by omega, by omega⟩, ⟨by omega, by omega⟩, rfl, ?_⟩
  refine ⟨?_, rfl⟩
  have h1 : (b.take (b.length : Int).toNat).drop 0 = b := by simp
  exact congrArg (A.own 1) h1

def tabL : List UInt8 := (([0, 1, 2, 2, 3, 3, 3, 3, 4, 4, 4, 4, 4, 4, 4, 4, 5, 5, 5, 5, 5, 5, 5, 5, 5, 5, 5, 5, 5, 5, 5, 5] ++ List.replicate 32 6) ++ List.replicate 64 7) ++ List.replicate 128 8
theorem tab_blen : ∀ i : Nat, i < 256 → ((tabL.toArray).getD i 0).toNat = blen i := by decide +kernel

/-- The leaf: the table's entry behind so many bits. -/
theorem len_leaf {v k w : Nat} (hk : 2 ^ k ≤ v ∨ k = 0) (hw : w = v / 2 ^ k) (n : Int) (hn : n = k) : n + ((blen w : Nat) : Int) = blen v := by
  subst hw; subst hn
  rcases hk with hk | rfl
  · rw [blen_shift hk]; omega
  · simp

def S32 (x : Int) : Int := x.fdiv (2 ^ min (Int.toNat 32) IntKind.u64.bits)
def S16 (x : Int) : Int := x.fdiv (2 ^ min (Int.toNat 16) IntKind.u64.bits)
def S8 (x : Int) : Int := x.fdiv (2 ^ min (Int.toNat 8) IntKind.u64.bits)
theorem c_Len64 (v : Nat) (hv : v < 2 ^ 64) (h : H) : ACalls Tryd.prog W0 70 [.v (.lit (.int .u64 v))] h fun r h' => r = .v (.i (blen v)) ∧ h' = h := by
  refine ACalls.of (C := CO [] fun _ => ([], [], 0)) (cOkO _ _) hP (fn := Tryd.f70) (by kernel_rfl) (by kernel_rfl) ?_
  have e32 : ∀ v : Nat, (v : Int).fdiv (2 ^ min (Int.toNat 32) IntKind.u64.bits) = ((v / 2 ^ 32 : Nat) : Int) := fun v => fdiv_shr v 32
  have e16 : ∀ v : Nat, (v : Int).fdiv (2 ^ min (Int.toNat 16) IntKind.u64.bits) = ((v / 2 ^ 16 : Nat) : Int) := fun v => fdiv_shr v 16
  have e8 : ∀ v : Nat, (v : Int).fdiv (2 ^ min (Int.toNat 8) IntKind.u64.bits) = ((v / 2 ^ 8 : Nat) : Int) := fun v => fdiv_shr v 8
  have E32 : ∀ v : Nat, S32 v = ((v / 2 ^ 32 : Nat) : Int) := e32
  have E16 : ∀ v : Nat, S16 v = ((v / 2 ^ 16 : Nat) : Int) := e16
  have E8 : ∀ v : Nat, S8 v = ((v / 2 ^ 8 : Nat) : Int) := e8
  -- the last region, from a clean state
  have leaf : ∀ (w k : Nat) (X N : Int), X = (w : Int) → w < 256 → N = (k : Int) → k ≤ 56 → (2 ^ k ≤ v ∨ k = 0) → w = v / 2 ^ k →
      ∃ z, IntKind.u8.wrap X = z ∧ ob none (0 ≤ z ∧ z < ((⟨tabL.toArray⟩ : ByteArray).size : Int)) ∧ ∃ y, IntKind.i64.wrap (((⟨tabL.toArray⟩ : ByteArray).data.getD z.toNat 0).toNat : Int) = y ∧ ob none (inI64 (N + y)) ∧ N + y = blen v := by
    intro w k X N hX hw hN hk h1 h2
    subst hX; subst hN
    have ht := tab_blen w hw
    have hb : blen w ≤ 8 := blen_le (k := 8) hw
    refine ⟨w, wrapU8 (by omega) (by omega), ⟨by omega, ?_⟩, blen w, ?_, ?_, len_leaf h1 h2 _ rfl⟩
    · have : (⟨tabL.toArray⟩ : ByteArray).size = 256 := by decide +kernel
      rw [this]; omega
    · show IntKind.i64.wrap (((tabL.toArray).getD (w : Int).toNat 0).toNat : Int) = _
      rw [Int.toNat_natCast, ht]; exact wrapI64 (by omega) (by omega)
    · show inI64 _; unfold inI64; omega
  have d32 : v / 2 ^ 32 / 2 ^ 16 = v / 2 ^ 48 := by rw [Nat.div_div_eq_div_mul]
  refine ⟨fun c1 => ?_, fun c1 => ?_⟩
  · replace c1 : (4294967296:Int) ≤ v := of_decide_eq_true c1
    refine ⟨by show (0:Int) ≤ 32; decide, ?_⟩
    have q1 : v / 2 ^ 32 < 2 ^ 32 := by omega
    refine ⟨fun c2 => ?_, fun c2 => ?_⟩
    · replace c2 := of_decide_eq_true c2
      rw [e32] at c2
      refine ⟨by show (0:Int) ≤ 16; decide, by show inI64 (32 + 16); unfold inI64; decide, ?_⟩
      refine ⟨fun c3 => ?_, fun c3 => ?_⟩
      · replace c3 := of_decide_eq_true c3
        rw [e32, e16] at c3
        refine ⟨by show (0:Int) ≤ 8; decide, by show inI64 (32 + 16 + 8); unfold inI64; decide, ?_⟩
        obtain ⟨z, p1, p2, y, p3, p4, p5⟩ := leaf (v / 2 ^ 32 / 2 ^ 16 / 2 ^ 8) 56 (S8 (S16 (S32 (v : Int)))) (32 + 16 + 8) (by rw [E32, E16, E8]) (by omega) rfl (by omega) (.inl (by omega)) (by omega)
        exact ⟨z, p1, p2, y, p3, p4, congrArg (fun n => A.v (V.i n)) p5, rfl⟩
      · replace c3 := of_decide_eq_false c3
        rw [e32, e16] at c3
        obtain ⟨z, p1, p2, y, p3, p4, p5⟩ := leaf (v / 2 ^ 32 / 2 ^ 16) 48 (S16 (S32 (v : Int))) (32 + 16) (by rw [E32, E16]) (by omega) rfl (by omega) (.inl (by omega)) (by omega)
        exact ⟨z, p1, p2, y, p3, p4, congrArg (fun n => A.v (V.i n)) p5, rfl⟩
    · replace c2 := of_decide_eq_false c2
      rw [e32] at c2
      refine ⟨fun c3 => ?_, fun c3 => ?_⟩
      · replace c3 := of_decide_eq_true c3
        rw [e32] at c3
        refine ⟨by show (0:Int) ≤ 8; decide, by show inI64 (32 + 8); unfold inI64; decide, ?_⟩
        obtain ⟨z, p1, p2, y, p3, p4, p5⟩ := leaf (v / 2 ^ 32 / 2 ^ 8) 40 (S8 (S32 (v : Int))) (32 + 8) (by rw [E32, E8]) (by omega) rfl (by omega) (.inl (by omega)) (by omega)
        exact ⟨z, p1, p2, y, p3, p4, congrArg (fun n => A.v (V.i n)) p5, rfl⟩
      · replace c3 := of_decide_eq_false c3
        rw [e32] at c3
        obtain ⟨z, p1, p2, y, p3, p4, p5⟩ := leaf (v / 2 ^ 32) 32 (S32 (v : Int)) 32 (by rw [E32]) (by omega) rfl (by omega) (.inl (by omega)) (by omega)
        exact ⟨z, p1, p2, y, p3, p4, congrArg (fun n => A.v (V.i n)) p5, rfl⟩
  · replace c1 : ¬ (4294967296:Int) ≤ v := of_decide_eq_false c1
    refine ⟨fun c2 => ?_, fun c2 => ?_⟩
    · replace c2 : (65536:Int) ≤ v := of_decide_eq_true c2
      refine ⟨by show (0:Int) ≤ 16; decide, by show inI64 (0 + 16); unfold inI64; decide, ?_⟩
      refine ⟨fun c3 => ?_, fun c3 => ?_⟩
      · replace c3 := of_decide_eq_true c3
        rw [e16] at c3
        refine ⟨by show (0:Int) ≤ 8; decide, by show inI64 (0 + 16 + 8); unfold inI64; decide, ?_⟩
        obtain ⟨z, p1, p2, y, p3, p4, p5⟩ := leaf (v / 2 ^ 16 / 2 ^ 8) 24 (S8 (S16 (v : Int))) (0 + 16 + 8) (by rw [E16, E8]) (by omega) rfl (by omega) (.inl (by omega)) (by omega)
        exact ⟨z, p1, p2, y, p3, p4, congrArg (fun n => A.v (V.i n)) p5, rfl⟩
      · replace c3 := of_decide_eq_false c3
        rw [e16] at c3
        obtain ⟨z, p1, p2, y, p3, p4, p5⟩ := leaf (v / 2 ^ 16) 16 (S16 (v : Int)) (0 + 16) (by rw [E16]) (by omega) rfl (by omega) (.inl (by omega)) (by omega)
        exact ⟨z, p1, p2, y, p3, p4, congrArg (fun n => A.v (V.i n)) p5, rfl⟩
    · replace c2 : ¬ (65536:Int) ≤ v := of_decide_eq_false c2
      refine ⟨fun c3 => ?_, fun c3 => ?_⟩
      · replace c3 : (256:Int) ≤ v := of_decide_eq_true c3
        refine ⟨by show (0:Int) ≤ 8; decide, by show inI64 (0 + 8); unfold inI64; decide, ?_⟩
        obtain ⟨z, p1, p2, y, p3, p4, p5⟩ := leaf (v / 2 ^ 8) 8 (S8 (v : Int)) (0 + 8) (by rw [E8]) (by omega) rfl (by omega) (.inl (by omega)) (by omega)
        exact ⟨z, p1, p2, y, p3, p4, congrArg (fun n => A.v (V.i n)) p5, rfl⟩
      · replace c3 : ¬ (256:Int) ≤ v := of_decide_eq_false c3
        obtain ⟨z, p1, p2, y, p3, p4, p5⟩ := leaf v 0 (v : Int) 0 rfl (by omega) rfl (by omega) (.inr rfl) (by omega)
        exact ⟨z, p1, p2, y, p3, p4, congrArg (fun n => A.v (V.i n)) p5, rfl⟩
theorem tdiv8 (m : Nat) : Int.tdiv ((m : Int) + 8 - 1) 8 = (((m + 7) / 8 : Nat) : Int) := by
  rw [Int.tdiv_eq_ediv_of_nonneg (by omega)]; omega

theorem c_Num (b : List UInt8) (v : Nat) (hv : v < 2 ^ 64) (hb : b.length ≤ 2 ^ 45) (h : H) :
    ACalls Tryd.prog W0 68 [.v (.sl 1 (V.bytes b)), .v (.lit (.int .u64 v))] h fun r h' => r = .own 1 (V.bytes (b ++ numB v)) ∧ h' = h := by
  refine ACalls.of (C := CO [23, 31] fun _ => ([], [], 0)) (cOkO _ _) hP (fn := Tryd.f68) (by kernel_rfl) (by kernel_rfl) ?_
  have hbl := blen_le hv
  have hn8 := nby_le hv
  refine (c_Len64 W0 v hv h).mono ?_
  rintro _ h ⟨rfl, rfl⟩
  refine ⟨by show inI64 ((blen v : Int) + 8); unfold inI64; omega, ?_⟩
  refine ⟨by show inI64 ((blen v : Int) + 8 - 1); unfold inI64; omega, ?_⟩
  refine ⟨⟨by show (8:Int) ≠ 0; decide, by show IntKind.i64.wrap (Int.tdiv ((blen v : Int) + 8 - 1) 8) = _; rw [tdiv8]; exact wrapI64 (by omega) (by omega)⟩, ?_⟩
  refine (c_own W0 (V.bytes b) _).mono ?_
  rintro _ h ⟨rfl, rfl⟩
  have hX : Int.tdiv ((blen v : Int) + 8 - 1) 8 = (nby v : Int) := tdiv8 _
  refine ⟨((UInt8.ofNat (nby v)).toNat : Int), ?_, ?_⟩
  · show IntKind.u8.wrap (Int.tdiv ((blen v : Int) + 8 - 1) 8) = _
    rw [hX, wrapU8_mod]; simp
  refine ⟨?_, V.bytes (b ++ [UInt8.ofNat (nby v)]), bytes_append b [_], ?_⟩
  · show ((V.bytes b).length + 1) * 1 ≤ 70368744177664
    rw [bytes_length]; omega
  refine ⟨by show inI64 (Int.tdiv ((blen v : Int) + 8 - 1) 8 - 1); rw [hX]; unfold inI64; omega, ?_⟩
  refine ⟨0, [0, 1, 5], 0, fun m xs l h2 => ∃ acc : List UInt8, xs = [.own 1 (V.bytes acc), .v (.lit (.int .u64 v)), .v (V.i ((m : Int) - 1))] ∧ l = [] ∧ h2 = h ∧ m ≤ nby v ∧ acc ++ beB v m = b ++ numB v, ⟨nby v, b ++ [UInt8.ofNat (nby v)], ?_, rfl, rfl, Nat.le_refl _, by simp [numB]⟩, ?_⟩
  · rw [← hX]; rfl
  rintro m xs l h2 ⟨acc, rfl, rfl, rfl, hm, hacc⟩
  have hlen : acc.length + m = b.length + (nby v + 1) := by
    have := congrArg List.length hacc
    simpa [beB_length, numB_length] using this
  refine ⟨fun c => ?_, fun c => ?_⟩
  · replace c : (0:Int) ≤ (m : Int) - 1 := of_decide_eq_true c
    obtain ⟨k, rfl⟩ : ∃ k, m = k + 1 := ⟨m - 1, by omega⟩
    have hk : ((k + 1 : Nat) : Int) - 1 = (k : Int) := by omega
    refine ⟨by show inI64 (8 * (((k + 1 : Nat) : Int) - 1)); unfold inI64; omega, ?_⟩
    refine ⟨by show (0:Int) ≤ 8 * (((k + 1 : Nat) : Int) - 1); omega, ?_⟩
    refine ⟨((UInt8.ofNat (v / 256 ^ k)).toNat : Int), ?_, ?_⟩
    · show IntKind.u8.wrap ((v : Int).fdiv (2 ^ (min (8 * (((k + 1 : Nat) : Int) - 1)).toNat 64))) = _
      have : min (8 * (((k + 1 : Nat) : Int) - 1)).toNat 64 = 8 * k := by omega
      rw [this, fdiv_shr, wrapU8_mod, Nat.pow_mul]
      simp
    refine ⟨?_, V.bytes (acc ++ [UInt8.ofNat (v / 256 ^ k)]), bytes_append acc [_], ?_⟩
    · show ((V.bytes acc).length + 1) * 1 ≤ 70368744177664
      rw [bytes_length]; omega
    refine ⟨by show inI64 (((k + 1 : Nat) : Int) - 1 - 1); unfold inI64; omega, ?_⟩
    refine ⟨k, by omega, acc ++ [UInt8.ofNat (v / 256 ^ k)], ?_, rfl, rfl, by omega, ?_⟩
    · have : ((k + 1 : Nat) : Int) - 1 - 1 = (k : Int) - 1 := by omega
      rw [← this]; rfl
    · rw [← hacc]; simp [beB]
  · replace c : ¬ (0:Int) ≤ (m : Int) - 1 := of_decide_eq_false c
    have hm0 : m = 0 := by omega
    subst hm0
    simp only [beB, List.append_nil] at hacc
    refine ⟨?_, rfl⟩
    rw [← hacc]; rfl
end Go.AI

namespace Go.AI
open Go.Proofs Go
variable (W0 : World)
set_option maxRecDepth 20000
set_option maxHeartbeats 1000000

theorem c_GetNum (b : List UInt8) (p : Nat) (hp : p ≤ 2 ^ 45) (hb : b.length ≤ 2 ^ 45) (h : H) :
    ACalls Tryd.prog W0 72 [.v (.sl 1 (V.bytes b)), .v (V.i p)] h fun r h' =>
      r = .v (.tup [.lit (.int .u64 (getNum b p).1), V.i (getNum b p).2.1, V.i (getNum b p).2.2]) ∧ h' = h := by
  obtain ⟨c, hc⟩ : ∃ c, c = (b[p]?.getD 0).toNat := ⟨_, rfl⟩
  obtain ⟨s, hl⟩ : ∃ s, s = (b.drop (p + 1)).take c := ⟨_, rfl⟩
  refine ACalls.of (C := CO [] fun _ => ([], [], 0)) (cOkO _ _) hP (fn := Tryd.f72) (by kernel_rfl) (by kernel_rfl) ?_
  have hlen := bytes_length b
  have key : ∀ g : Nat × Nat × Nat, getNum b p = g → (A.v (.tup [.lit (.int .u64 g.1), V.i g.2.1, V.i g.2.2]) = A.v (.tup [.lit (.int .u64 (getNum b p).1), V.i (getNum b p).2.1, V.i (getNum b p).2.2])) := by
    rintro g rfl; rfl
  have gp : ∀ (i : Int) (k : Nat), i = k → k < b.length → (V.bytes b)[i.toNat]? = some (V.u8 (b[k]?.getD 0)) := by
    rintro i k rfl hk; rw [Int.toNat_natCast]; exact bytes_get b k hk
  refine ⟨fun c1 => ?_, fun c1 => ?_⟩
  · replace c1 : b.length < p := by
      have : ((p : Int) < 0) ∨ ((p : Int) > ((V.bytes b).length : Int)) := by simpa using c1
      omega
    refine ⟨?_, rfl⟩
    exact key (0, 0, 1) (by unfold getNum; rw [if_pos c1])
  replace c1 : ¬ b.length < p := by
    have : ¬ (((p : Int) < 0) ∨ ((p : Int) > ((V.bytes b).length : Int))) := by simpa using c1
    omega
  refine ⟨fun c2 => ?_, fun c2 => ?_⟩
  · replace c2 : p = b.length := by
      have : (p : Int) = ((V.bytes b).length : Int) := by simpa using c2
      omega
    exact ⟨key (0, 0, 8) (by unfold getNum; rw [if_neg c1, if_pos c2]), rfl⟩
  replace c2 : ¬ p = b.length := by
    have : ¬ (p : Int) = ((V.bytes b).length : Int) := by simpa using c2
    omega
  have hpl : p < b.length := by omega
  refine ⟨V.u8 (b[p]?.getD 0), ⟨by show (0:Int) ≤ (p : Int); omega, gp _ _ rfl hpl⟩, ?_⟩
  refine ⟨fun c3 => ?_, fun c3 => ?_⟩
  · replace c3 : 8 < (b[p]?.getD 0).toNat := by
      have : (8:Int) < ((b[p]?.getD 0).toNat : Int) := of_decide_eq_true c3
      omega
    exact ⟨key (0, 0, 6) (by unfold getNum; rw [if_neg c1, if_neg c2, if_pos c3]), rfl⟩
  replace c3 : ¬ 8 < (b[p]?.getD 0).toNat := by
    have : ¬ (8:Int) < ((b[p]?.getD 0).toNat : Int) := of_decide_eq_false c3
    omega
  refine ⟨by show inI64 ((p : Int) + 1); unfold inI64; omega, ?_⟩
  refine ⟨V.u8 (b[p]?.getD 0), ⟨by show (0:Int) ≤ (p : Int); omega, gp _ _ rfl hpl⟩, ?_⟩
  refine ⟨(c : Int), by rw [hc]; exact wrapI64 (by omega) (by omega), ?_⟩
  refine ⟨by show inI64 ((p : Int) + 1 + c); unfold inI64; omega, ?_⟩
  refine ⟨by show inI64 ((p : Int) + 1); unfold inI64; omega, ?_⟩
  refine ⟨fun hg => by show inI64 ((p : Int) + 1); unfold inI64; omega, ?_⟩
  refine ⟨fun hg => by show inI64 ((p : Int) + 1); unfold inI64; omega, ?_⟩
  refine ⟨V.u8 (b[p + 1]?.getD 0), fun hg => ?_, ?_⟩
  · have hg' : ((p : Int) + 1 + c > (p : Int) + 1) ∧ ((p : Int) + 1 < ((V.bytes b).length : Int)) := by simpa using hg
    exact ⟨by show (0:Int) ≤ (p : Int) + 1; omega, gp _ _ (by omega) (by omega)⟩
  have e4 : ∀ x : Bool, x = (((decide ((p : Int) + 1 < (p : Int) + 1 + c)) && decide ((p : Int) + 1 < ((V.bytes b).length : Int))) && (((b[p + 1]?.getD 0).toNat : Int) == 0)) →
      (x = true ↔ (0 < (b[p]?.getD 0).toNat ∧ p + 1 < b.length ∧ (b[p + 1]?.getD 0).toNat = 0)) := by
    rintro x rfl
    rw [← hc]
    simp only [Bool.and_eq_true, decide_eq_true_eq, beq_iff_eq, hlen, and_assoc]
    omega
  refine ⟨fun c4 => ?_, fun c4 => ?_⟩
  · replace c4 := (e4 _ (by
      cases decide ((p : Int) + 1 < (p : Int) + 1 + c) <;> cases decide ((p : Int) + 1 < ((V.bytes b).length : Int)) <;> rfl)).1 c4
    exact ⟨key (0, 0, 6) (by unfold getNum; rw [if_neg c1, if_neg c2, if_neg c3, if_pos c4]), rfl⟩
  replace c4 := fun hx => Bool.false_ne_true (c4.symm.trans ((e4 _ (by
      cases decide ((p : Int) + 1 < (p : Int) + 1 + c) <;> cases decide ((p : Int) + 1 < ((V.bytes b).length : Int)) <;> rfl)).2 hx))
  refine ⟨fun c5 => ?_, fun c5 => ?_⟩
  · replace c5 : b.length < p + 1 + (b[p]?.getD 0).toNat := by
      have : ((V.bytes b).length : Int) < (p : Int) + 1 + c := of_decide_eq_true c5
      omega
    exact ⟨key (0, 0, 8) (by unfold getNum; rw [if_neg c1, if_neg c2, if_neg c3, if_neg c4, if_pos c5]), rfl⟩
  replace c5 : ¬ b.length < p + 1 + (b[p]?.getD 0).toNat := by
    have : ¬ ((V.bytes b).length : Int) < (p : Int) + 1 + c := of_decide_eq_false c5
    omega
  refine ⟨by show inI64 ((p : Int) + 1); unfold inI64; omega, ?_⟩
  refine ⟨⟨by show (0:Int) ≤ (p : Int) + 1 + c; omega, by show (p : Int) + 1 + c ≤ ((V.bytes b).length : Int); omega⟩, ?_⟩
  refine ⟨⟨by show (0:Int) ≤ (p : Int) + 1; omega, by show (p : Int) + 1 ≤ (((p : Int) + 1 + c).toNat : Int); omega⟩, ?_⟩
  have hs : ((V.bytes b).take ((p : Int) + 1 + c).toNat).drop ((p : Int) + 1).toNat = V.bytes s := by
    have e1 : ((p : Int) + 1 + c).toNat = p + 1 + c := by omega
    have e2 : ((p : Int) + 1).toNat = p + 1 := by omega
    have e3 : p + 1 + c - (p + 1) = c := by omega
    rw [bytes_take_drop, e1, e2, List.drop_take, e3, hl]
  have hsl : s.length = c := by rw [hl]; simp; omega
  have hsb := bytes_length s
  refine ⟨0, [4, 5, 66, 67, 68], 0, fun m xs l h2 => ∃ (k : Nat) (X N L : Int) (S : List V), xs = [.v (.lit (.int .u64 X)), .v (V.i N), .v (.sl 1 S), .v (V.i L), .v (V.i k)] ∧ l = [] ∧ h2 = h ∧ m + k = c ∧ X = beV (s.take k) ∧ N = (p : Int) + 1 + c ∧ L = s.length ∧ S = V.bytes s,
    ⟨c, 0, _, _, _, _, rfl, rfl, rfl, by show c + 0 = c; omega, rfl, rfl, by show ((((V.bytes b).take ((p : Int) + 1 + c).toNat).drop ((p : Int) + 1).toNat).length : Int) = _; rw [hs, hsb], hs⟩, ?_⟩
  rintro m xs l h2 ⟨k, X, N, L, S, rfl, rfl, rfl, hk, rfl, rfl, rfl, rfl⟩
  replace hk : (m : Nat) + k = c := hk
  refine ⟨fun c6 => ?_, fun c6 => ?_⟩
  · replace c6 : (k : Int) < (s.length : Int) := of_decide_eq_true c6
    have hks : k < s.length := by omega
    have htk : s.take (k + 1) = s.take k ++ [s[k]?.getD 0] := by
      rw [List.take_add_one]; simp [hks]
    have hlt := beV_lt (s.take (k + 1))
    have h256 : (256:Nat) ^ (s.take (k + 1)).length ≤ 256 ^ 8 := Nat.pow_le_pow_right (by decide) (by simp; omega)
    have e256 : 256 ^ 8 = 2 ^ 64 := by decide
    have hx := (s[k]?.getD 0).toNat_lt
    replace hlt := Nat.lt_of_lt_of_le hlt h256
    rw [htk, beV_snoc, e256] at hlt
    refine ⟨V.u8 (s[k]?.getD 0), ⟨by show (0:Int) ≤ (k : Int); omega, ?_⟩, ?_⟩
    · show (V.bytes s)[((k : Nat) : Int).toNat]? = _
      rw [Int.toNat_natCast]; exact bytes_get s k hks
    refine ⟨by show (0:Int) ≤ 8; omega, ?_⟩
    refine ⟨((s[k]?.getD 0).toNat : Int), wrapU64 (by omega) (by omega), ?_⟩
    refine ⟨by show inI64 ((k : Int) + 1); unfold inI64; omega, ?_⟩
    refine ⟨m - 1, by show (m : Nat) - 1 < m; omega, k + 1, _, _, _, _, rfl, rfl, rfl, by show (m : Nat) - 1 + (k + 1) = c; omega, ?_, rfl, rfl, rfl⟩
    have hsh : IntKind.u64.wrap (((beV (s.take k) : Nat) : Int) * 2 ^ (min (Int.toNat 8) IntKind.u64.bits)) = ((beV (s.take k) * 256 : Nat) : Int) := by
      have : (((beV (s.take k) : Nat) : Int) * 2 ^ (min (Int.toNat 8) IntKind.u64.bits)) = ((beV (s.take k) * 256 : Nat) : Int) := by
        show ((beV (s.take k) : Nat) : Int) * 2 ^ 8 = _
        omega
      rw [this]; exact wrapU64 (by omega) (by omega)
    have hor := or_u64 (beV (s.take k)) (s[k]?.getD 0).toNat hx (by omega)
    rw [← hsh, ← beV_snoc, ← htk] at hor
    exact hor
  · replace c6 : ¬ (k : Int) < (s.length : Int) := of_decide_eq_false c6
    refine ⟨?_, rfl⟩
    have hk2 : s.take k = s := List.take_of_length_le (by omega)
    have hg : getNum b p = (beV s, p + 1 + c, 0) := by
      unfold getNum; rw [if_neg c1, if_neg c2, if_neg c3, if_neg c4, if_neg c5, ← hc, ← hl]
    rw [hg]
    show A.v (.tup [.lit (.int .u64 (beV (s.take k))), V.i ((p : Int) + 1 + c), V.i 0]) = _
    rw [hk2]; rfl
end Go.AI

namespace Go.AI
open Go.Proofs Go
variable (W0 : World)
set_option maxRecDepth 20000
set_option maxHeartbeats 1000000

theorem c_number (b : List UInt8) (v : Int) (h0 : 0 ≤ v) (h1 : v < 2 ^ 63) (hb : b.length ≤ 2 ^ 45) (h : H) :
    ACalls Tryd.prog W0 83 [.v (.sl 1 (V.bytes b)), .v (V.i v)] h fun r h' => r = .own 1 (V.bytes (b ++ numB v.toNat)) ∧ h' = h := by
  refine ACalls.of (C := CO [] fun _ => ([], [], 0)) (cOkO _ _) hP (fn := Tryd.f83) (by kernel_rfl) (by kernel_rfl) ?_
  refine ⟨(v.toNat : Int), by show IntKind.u64.wrap v = _; rw [wrapU64 h0 (by omega)]; omega, ?_⟩
  refine (c_Num W0 b v.toNat (by omega) hb _).mono ?_
  rintro _ _ ⟨rfl, rfl⟩
  exact ⟨rfl, rfl⟩

theorem c_ptext (b : List UInt8) (s : Str) (hb : (b ++ encText s).length ≤ 2 ^ 45) (h : H) :
    ACalls Tryd.prog W0 84 [.v (.sl 1 (V.bytes b)), .v (V.s s)] h fun r h' => r = .own 1 (V.bytes (b ++ encText s)) ∧ h' = h := by
  have hl : b.length + (nby s.size + 1) + s.size ≤ 2 ^ 45 := by
    have := str_len s
    simp only [encText, List.length_append, numB_length, this] at hb
    omega
  have hs : (V.bytes (b ++ numB s.size)).length = b.length + (nby s.size + 1) := by simp [bytes_length, numB_length]
  have hd : (V.bytes s.data.toList).length = s.size := by rw [bytes_length, str_len]
  refine ACalls.of (C := CO [] fun _ => ([], [], 0)) (cOkO _ _) hP (fn := Tryd.f84) (by kernel_rfl) (by kernel_rfl) ?_
  refine (c_number W0 b (s.size : Int) (by omega) (by omega) (by omega) _).mono ?_
  rintro _ _ ⟨rfl, rfl⟩
  refine ⟨?_, V.bytes (b ++ encText s), ?_, ?_⟩
  · show ((V.bytes (b ++ numB s.size)).length + (V.bytes s.data.toList).length) * 1 ≤ 70368744177664
    rw [hs, hd]; omega
  · show V.bytes (b ++ numB s.size) ++ V.bytes s.data.toList = _
    rw [bytes_append, encText, List.append_assoc]
  exact ⟨rfl, rfl⟩

theorem c_cell (b : List UInt8) (c : Cell) (hc : c.pos) (hb : (b ++ encCell c).length ≤ 2 ^ 45) (h : H) :
    ACalls Tryd.prog W0 92 [.v (.sl 1 (V.bytes b)), .v (.agg c.v)] h fun r h' => r = .own 1 (V.bytes (b ++ encCell c)) ∧ h' = h := by
  obtain ⟨val, dead, at_, end_⟩ := c
  obtain ⟨⟨ha0, ha1⟩, ⟨he0, he1⟩⟩ := hc
  replace ha0 : 0 ≤ at_ := ha0
  replace ha1 : at_ ≤ 1099511627776 := ha1
  replace he0 : 0 ≤ end_ := he0
  replace he1 : end_ ≤ 1099511627776 := he1
  have hbl : b.length ≤ 2 ^ 45 := by rw [List.length_append] at hb; omega
  have key : ∀ e : List UInt8, encCell ⟨val, dead, at_, end_⟩ = e → A.own 1 (V.bytes (b ++ e)) = A.own 1 (V.bytes (b ++ encCell ⟨val, dead, at_, end_⟩)) := by rintro e rfl; rfl
  have hn := bytes_length (b ++ numB at_.toNat)
  have hnl : (b ++ numB at_.toNat).length ≤ (b ++ encCell ⟨val, dead, at_, end_⟩).length := by
    unfold encCell; split
    · exact Nat.le_refl _
    · split <;> simp <;> omega
  refine ACalls.of (C := CO [13, 17, 20] fun i => match i with | 6 => ([0, 3, 4, 6, 7, 1, 2, 5, 8, 9], [], 1) | _ => ([], [], 0)) (cOkO _ _) hP (fn := Tryd.f92) (by kernel_rfl) (by kernel_rfl) ?_
  refine (c_number W0 b at_ ha0 (by omega) hbl _).mono ?_
  rintro _ _ ⟨rfl, rfl⟩
  refine ⟨fun c2 => ?_, fun c2 => ?_⟩
  · replace c2 : at_ = 0 := by simpa using c2
    exact ⟨key _ (by simp [encCell, c2]), rfl⟩
  replace c2 : ¬ (at_ = 0) := by simpa using c2
  refine ⟨fun c3 => ?_, fun c3 => ?_⟩
  · replace c3 : dead = true := c3
    refine ⟨?_, V.bytes (b ++ numB at_.toNat ++ [1]), ?_, ?_⟩
    · show ((V.bytes (b ++ numB at_.toNat)).length + 1) * 1 ≤ 70368744177664
      omega
    · exact bytes_append _ [1]
    refine ⟨?_, rfl⟩
    show A.own 1 (V.bytes (b ++ numB at_.toNat ++ [1])) = _
    rw [List.append_assoc]
    exact key _ (by simp [encCell, c2, c3])
  replace c3 : dead = false := c3
  have henc : encCell ⟨val, dead, at_, end_⟩ = numB at_.toNat ++ [0] ++ encText val ++ numB end_.toNat := by simp [encCell, c2, c3]
  refine ⟨[], fun _ => false, ?_⟩
  refine ⟨?_, V.bytes (b ++ numB at_.toNat ++ [0]), ?_, ?_⟩
  · show ((V.bytes (b ++ numB at_.toNat)).length + 1) * 1 ≤ 70368744177664
    omega
  · exact bytes_append _ [0]
  rw [henc] at hb
  refine (c_ptext W0 (b ++ numB at_.toNat ++ [0]) val (by simp at hb ⊢; omega) _).mono ?_
  rintro _ _ ⟨rfl, rfl⟩
  refine (c_number W0 (b ++ numB at_.toNat ++ [0] ++ encText val) end_ he0 (by omega) (by simp at hb ⊢; omega) _).mono ?_
  rintro _ _ ⟨rfl, rfl⟩
  refine ⟨?_, rfl⟩
  show A.own 1 (V.bytes (b ++ numB at_.toNat ++ [0] ++ encText val ++ numB end_.toNat)) = _
  have : b ++ numB at_.toNat ++ [0] ++ encText val ++ numB end_.toNat = b ++ (numB at_.toNat ++ [0] ++ encText val ++ numB end_.toNat) := by simp
  rw [this]
  exact key _ henc
end Go.AI

namespace Go.AI
open Go.Proofs Go
variable (W0 : World)
set_option maxRecDepth 20000
set_option maxHeartbeats 1000000

theorem c_row (b : List UInt8) (r : Row) (hr : r.pos) (hb : (b ++ encRow r).length ≤ 2 ^ 45) (hk : r.cols.length ≤ 2 ^ 45) (h : H) :
    ACalls Tryd.prog W0 85 [.v (.sl 1 (V.bytes b)), .v (.agg r.v)] h fun x h' => x = .own 1 (V.bytes (b ++ encRow r)) ∧ h' = h := by
  obtain ⟨key, live, gone, shade, cols⟩ := r
  obtain ⟨hl, ⟨hg0, hg1⟩, ⟨hs0, hs1⟩, hc⟩ := hr
  replace hg0 : 0 ≤ gone := hg0
  replace hg1 : gone ≤ 1099511627776 := hg1
  replace hs0 : 0 ≤ shade := hs0
  replace hs1 : shade ≤ 1099511627776 := hs1
  replace hc : ∀ c ∈ cols, c.cell.pos := hc
  replace hl : live.pos := hl
  replace hk : cols.length ≤ 2 ^ 45 := hk
  have henc : b ++ encRow ⟨key, live, gone, shade, cols⟩ = b ++ encText key ++ encCell live ++ numB gone.toNat ++ numB shade.toNat ++ numB cols.length ++ cols.flatMap encCol := by simp [encRow]
  have hcl : (cols.map fun c => V.agg c.v).length = cols.length := List.length_map ..
  rw [henc] at hb ⊢
  have hlen := hb
  simp only [List.length_append] at hlen
  refine ACalls.of (C := CO [40] fun i => match i with | 1 => ([0, 1, 2, 4, 5, 7, 8, 10, 11, 3, 6, 9, 12, 13], [], 1) | 6 => ([0, 1, 2, 4, 5, 3, 6, 7], [], 1) | _ => ([], [], 0)) (cOkO _ _) hP (fn := Tryd.f85) (by kernel_rfl) (by kernel_rfl) ?_
  refine ⟨[], fun _ => false, ?_⟩
  refine (c_ptext W0 b key (by simp only [List.length_append]; omega) _).mono ?_
  rintro _ _ ⟨rfl, rfl⟩
  refine (c_cell W0 _ live hl (by simp only [List.length_append]; omega) _).mono ?_
  rintro _ _ ⟨rfl, rfl⟩
  refine (c_number W0 _ gone hg0 (by omega) (by simp only [List.length_append]; omega) _).mono ?_
  rintro _ _ ⟨rfl, rfl⟩
  refine (c_number W0 _ shade hs0 (by omega) (by simp only [List.length_append]; omega) _).mono ?_
  rintro _ _ ⟨rfl, rfl⟩
  refine (c_number W0 (b ++ encText key ++ encCell live ++ numB gone.toNat ++ numB shade.toNat) ((cols.map fun c => V.agg c.v).length : Int) (by omega) (by omega) (by simp only [List.length_append]; omega) _).mono ?_
  rintro _ _ ⟨rfl, rfl⟩
  refine ⟨0, [0, 26, 27, 28], 0, fun m xs l h2 => l = [] ∧ ∃ (d r : List Col) (acc : List UInt8) (k n : Int), xs = [.own 1 (V.bytes acc), .v (.sl 5 (cols.map fun c => .agg c.v)), .v (V.i n), .v (V.i k)] ∧ h2 = h ∧ m = r.length ∧ cols = d ++ r ∧ k = d.length ∧ n = cols.length ∧
      acc ++ r.flatMap encCol = b ++ encText key ++ encCell live ++ numB gone.toNat ++ numB shade.toNat ++ numB cols.length ++ cols.flatMap encCol,
    ⟨cols.length, rfl, [], cols, _, _, _, rfl, rfl, rfl, rfl, rfl, by rw [← hcl], by rw [hcl, Int.toNat_natCast]⟩, ?_⟩
  rintro m xs l h2 ⟨rfl, d, r, acc, k, n, rfl, rfl, rfl, hd, rfl, rfl, hacc⟩
  have hdl : cols.length = d.length + r.length := by rw [hd, List.length_append]
  refine ⟨fun c6 => ?_, fun c6 => ?_⟩
  · replace c6 : (d.length : Int) < (cols.length : Int) := of_decide_eq_true c6
    cases r with
    | nil => exact absurd hdl (by simp only [List.length_nil]; omega)
    | cons c r =>
    have hget : (cols.map fun c => V.agg c.v)[d.length]? = some (.agg c.v) := by rw [hd]; exact map_get _ d c r
    have hlt := congrArg List.length hacc
    simp only [List.length_append, List.flatMap_cons] at hlt hdl
    have hce : (encCol c).length = (encText c.name).length + (encCell c.cell).length := by simp [encCol]
    refine ⟨.agg c.v, ⟨by show (0:Int) ≤ (d.length : Int); omega, ?_⟩, ?_⟩
    · show (cols.map fun c => V.agg c.v)[((d.length : Nat) : Int).toNat]? = _
      rw [Int.toNat_natCast]; exact hget
    refine ⟨[], fun _ => false, ?_⟩
    refine (c_ptext W0 acc c.name (by simp only [List.length_append]; omega) _).mono ?_
    rintro _ _ ⟨rfl, rfl⟩
    refine (c_cell W0 _ c.cell (hc c (by rw [hd]; simp)) (by simp only [List.length_append]; omega) _).mono ?_
    rintro _ _ ⟨rfl, rfl⟩
    refine ⟨by show inI64 ((d.length : Int) + 1); unfold inI64; omega, ?_⟩
    refine ⟨r.length, by show r.length < r.length + 1; omega, rfl, d ++ [c], r, _, _, _, rfl, rfl, rfl, by rw [hd]; simp, by simp, rfl, ?_⟩
    rw [← hacc]; simp [encCol]
  · replace c6 : ¬ (d.length : Int) < (cols.length : Int) := of_decide_eq_false c6
    cases r with
    | cons c r => exact absurd hdl (by simp only [List.length_cons]; omega)
    | nil =>
    refine ⟨?_, rfl⟩
    rw [← hacc]; simp only [List.flatMap_nil, List.append_nil]; rfl
end Go.AI

namespace Go.AI
open Go.Proofs Go
variable (W0 : World)
set_option maxRecDepth 20000
set_option maxHeartbeats 1000000

theorem c_whole (p : Part) (hr : p.pos) (hb : (encPart p).length ≤ 2 ^ 45) (hk : p.rows.length ≤ 2 ^ 45) (hk2 : ∀ r ∈ p.rows, r.cols.length ≤ 2 ^ 45) (h : H) :
    ACalls Tryd.prog W0 80 [.v (.agg p.v)] h fun x h' => x = .own 1 (V.bytes (encPart p)) ∧ h' = h := by
  obtain ⟨key, gone, rows⟩ := p
  obtain ⟨⟨hg0, hg1⟩, hc⟩ := hr
  replace hg0 : 0 ≤ gone := hg0
  replace hg1 : gone ≤ 1099511627776 := hg1
  replace hc : ∀ c ∈ rows, c.pos := hc
  replace hk : rows.length ≤ 2 ^ 45 := hk
  replace hk2 : ∀ r ∈ rows, r.cols.length ≤ 2 ^ 45 := hk2
  have henc : encPart ⟨key, gone, rows⟩ = [] ++ encText key ++ numB gone.toNat ++ numB rows.length ++ rows.flatMap encRow := by simp [encPart]
  have hcl : (rows.map fun c => V.agg c.v).length = rows.length := List.length_map ..
  rw [henc] at hb ⊢
  have hlen := hb
  simp only [List.length_append] at hlen
  refine ACalls.of (C := CO [27] fun i => match i with | 1 => ([0, 1, 3, 4, 6, 7, 8, 2, 5, 9, 10], [], 1) | _ => ([], [], 0)) (cOkO _ _) hP (fn := Tryd.f80) (by kernel_rfl) (by kernel_rfl) ?_
  refine ⟨[], fun _ => false, ?_⟩
  refine (c_ptext W0 [] key (by simp only [List.length_append]; omega) _).mono ?_
  rintro _ _ ⟨rfl, rfl⟩
  refine (c_number W0 ([] ++ encText key) gone hg0 (by omega) (by simp only [List.length_append]; omega) _).mono ?_
  rintro _ _ ⟨rfl, rfl⟩
  refine (c_number W0 ([] ++ encText key ++ numB gone.toNat) ((rows.map fun c => V.agg c.v).length : Int) (by omega) (by omega) (by simp only [List.length_append]; omega) _).mono ?_
  rintro _ _ ⟨rfl, rfl⟩
  refine ⟨0, [3, 17, 18, 19], 0, fun m xs l h2 => l = [] ∧ ∃ (d r : List Row) (acc : List UInt8) (k n : Int), xs = [.own 1 (V.bytes acc), .v (.sl 8 (rows.map fun c => .agg c.v)), .v (V.i n), .v (V.i k)] ∧ h2 = h ∧ m = r.length ∧ rows = d ++ r ∧ k = d.length ∧ n = rows.length ∧
      acc ++ r.flatMap encRow = [] ++ encText key ++ numB gone.toNat ++ numB rows.length ++ rows.flatMap encRow,
    ⟨rows.length, rfl, [], rows, _, _, _, rfl, rfl, rfl, rfl, rfl, by rw [← hcl], by rw [hcl, Int.toNat_natCast]⟩, ?_⟩
  rintro m xs l h2 ⟨rfl, d, r, acc, k, n, rfl, rfl, rfl, hd, rfl, rfl, hacc⟩
  have hdl : rows.length = d.length + r.length := by rw [hd, List.length_append]
  refine ⟨fun c6 => ?_, fun c6 => ?_⟩
  · replace c6 : (d.length : Int) < (rows.length : Int) := of_decide_eq_true c6
    cases r with
    | nil => exact absurd hdl (by simp only [List.length_nil]; omega)
    | cons c r =>
    have hget : (rows.map fun c => V.agg c.v)[d.length]? = some (.agg c.v) := by rw [hd]; exact map_get _ d c r
    have hlt := congrArg List.length hacc
    simp only [List.length_append, List.flatMap_cons] at hlt hdl
    have hm : c ∈ rows := by rw [hd]; simp
    refine ⟨.agg c.v, ⟨by show (0:Int) ≤ (d.length : Int); omega, ?_⟩, ?_⟩
    · show (rows.map fun c => V.agg c.v)[((d.length : Nat) : Int).toNat]? = _
      rw [Int.toNat_natCast]; exact hget
    refine (c_row W0 acc c (hc c hm) (by simp only [List.length_append]; omega) (hk2 c hm) _).mono ?_
    rintro _ _ ⟨rfl, rfl⟩
    refine ⟨by show inI64 ((d.length : Int) + 1); unfold inI64; omega, ?_⟩
    refine ⟨r.length, by show r.length < r.length + 1; omega, rfl, d ++ [c], r, _, _, _, rfl, rfl, rfl, by rw [hd]; simp, by simp, rfl, ?_⟩
    rw [← hacc]; simp
  · replace c6 : ¬ (d.length : Int) < (rows.length : Int) := of_decide_eq_false c6
    cases r with
    | cons c r => exact absurd hdl (by simp only [List.length_cons]; omega)
    | nil =>
    refine ⟨?_, rfl⟩
    rw [← hacc]; simp only [List.flatMap_nil, List.append_nil]; rfl
end Go.AI

namespace Go.AI
open Go.Proofs Go
variable (W0 : World)
set_option maxRecDepth 20000
set_option maxHeartbeats 1000000

theorem c_cstamp (v : Int) (h : H) : ACalls Tryd.prog W0 45 [.v (V.i v)] h fun r h' => r = .v (V.b (stampB v)) ∧ h' = h := by
  refine ACalls.of (C := CO [] fun _ => ([], [], 0)) (cOkO _ _) hP (fn := Tryd.f45) (by kernel_rfl) (by kernel_rfl) ?_
  exact ⟨rfl, rfl⟩
theorem c_rstamp (v : Int) (h : H) : ACalls Tryd.prog W0 39 [.v (V.i v)] h fun r h' => r = .v (V.b (stampB v)) ∧ h' = h := by
  refine ACalls.of (C := CO [] fun _ => ([], [], 0)) (cOkO _ _) hP (fn := Tryd.f39) (by kernel_rfl) (by kernel_rfl) ?_
  exact ⟨rfl, rfl⟩
theorem c_letter (v : Int) (h : H) : ACalls Tryd.prog W0 29 [.v (.lit (.int .i32 v))] h fun r h' => r = .v (V.b (isLetter v)) ∧ h' = h := by
  refine ACalls.of (C := CO [] fun _ => ([], [], 0)) (cOkO _ _) hP (fn := Tryd.f29) (by kernel_rfl) (by kernel_rfl) ?_
  exact ⟨rfl, rfl⟩

theorem c_checkCell (c : Cell) (h : H) : ACalls Tryd.prog W0 38 [.v (.agg c.v)] h fun r h' => r = .v (V.b (checkCell c)) ∧ h' = h := by
  obtain ⟨val, dead, at_, end_⟩ := c
  have key : ∀ b : Bool, b = checkCell ⟨val, dead, at_, end_⟩ → A.v (V.b b) = A.v (V.b (checkCell ⟨val, dead, at_, end_⟩)) := by rintro b rfl; rfl
  refine ACalls.of (C := CO [] fun _ => ([], [], 0)) (cOkO _ _) hP (fn := Tryd.f38) (by kernel_rfl) (by kernel_rfl) ?_
  refine (c_cstamp W0 at_ _).mono ?_
  rintro _ _ ⟨rfl, rfl⟩
  refine ⟨rfl, V.b (stampB end_), fun hg => (c_cstamp W0 end_ _), ?_⟩
  refine ⟨fun c3 => ?_, fun c3 => ?_⟩
  · replace c3 : (stampB at_ && stampB end_) = false := by
      have : (bif !stampB at_ then true else !stampB end_) = true := c3
      revert this; cases stampB at_ <;> cases stampB end_ <;> decide
    exact ⟨key false (by unfold checkCell; rw [if_neg (by rw [c3]; decide)]), rfl⟩
  replace c3 : (stampB at_ && stampB end_) = true := by
    have : (bif !stampB at_ then true else !stampB end_) = false := c3
    revert this; cases stampB at_ <;> cases stampB end_ <;> decide
  refine ⟨fun c4 => ?_, fun c4 => ?_⟩
  · replace c4 : at_ = 0 := by simpa using c4
    refine ⟨key _ ?_, rfl⟩
    unfold checkCell
    rw [if_pos c3, if_pos c4]
    show (decide (val = ⟨#[]⟩) && ((dead == false) && (decide (at_ = 0) && (decide (end_ = 0) && true)))) = _
    rw [c4]; cases dead <;> simp
  replace c4 : ¬ at_ = 0 := by simpa using c4
  refine ⟨fun c5 => ?_, fun c5 => ?_⟩
  · replace c5 : dead = true := c5
    refine ⟨key _ ?_, rfl⟩
    unfold checkCell
    rw [if_pos c3, if_neg c4, if_pos c5]
    show (decide (val = ⟨#[]⟩) && ((dead == true) && (decide (at_ = at_) && (decide (end_ = 0) && true)))) = _
    rw [c5]; simp
  replace c5 : dead = false := c5
  refine ⟨key _ ?_, rfl⟩
  unfold checkCell
  rw [if_pos c3, if_neg c4, if_neg (by show ¬ dead = true; rw [c5]; exact Bool.false_ne_true)]
  show decide ((val.size : Int) ≤ 100) = decide (val.size ≤ 100)
  by_cases hh : val.size ≤ 100
  · rw [decide_eq_true hh, decide_eq_true (by omega)]
  · rw [decide_eq_false hh, decide_eq_false (by omega)]
end Go.AI

namespace Go.AI
open Go.Proofs Go
variable (W0 : World)
set_option maxRecDepth 20000
set_option maxHeartbeats 1000000

theorem nameFrom_succ (s : Str) (n i : Nat) : nameFrom s (n + 1) i = if i < s.size then
      (if ((isLetter ((Utf8.decode s i).1 : Int) || (decide (48 ≤ ((Utf8.decode s i).1 : Int)) && decide (((Utf8.decode s i).1 : Int) ≤ 57) && decide (0 < i))) && isRight s i (Utf8.decode s i).1) = true then nameFrom s n (i + (Utf8.decode s i).2) else false)
    else true := rfl
/-- The library decodes the code point that a text begins with. -/
def DecC : Prop := ∀ (s : Str) (h : H), ACalls Tryd.prog W0 37 [.v (V.s s)] h fun r h' => r = .v (.tup [.lit (.int .i32 (decG s).1), V.i (decG s).2]) ∧ h' = h

theorem c_right (hD : DecC W0) (s : Str) (i : Nat) (hi : i ≤ s.size) (r : Int) (h : H) : ACalls Tryd.prog W0 30 [.v (V.s s), .v (V.i i), .v (.lit (.int .i32 r))] h fun x h' => x = .v (V.b (isRight s i r)) ∧ h' = h := by
  have key : ∀ b : Bool, b = isRight s i r → A.v (V.b b) = A.v (V.b (isRight s i r)) := by rintro b rfl; rfl
  refine ACalls.of (C := CO [] fun _ => ([], [], 0)) (cOkO _ _) hP (fn := Tryd.f30) (by kernel_rfl) (by kernel_rfl) ?_
  refine ⟨fun c1 => ?_, fun c1 => ?_⟩
  · replace c1 : ¬ r = 65533 := by simpa using c1
    exact ⟨key true (by unfold isRight; rw [if_neg c1]), rfl⟩
  replace c1 : r = 65533 := by simpa using c1
  refine ⟨⟨by show (0:Int) ≤ (i : Int); omega, by show (i : Int) ≤ (s.size : Int); omega⟩, ?_⟩
  refine (hD (s.extract i s.size) _).mono ?_
  rintro _ _ ⟨rfl, rfl⟩
  refine ⟨key _ ?_, rfl⟩
  unfold isRight; rw [if_pos c1]
  show decide ((1:Int) < ((decG (s.extract i s.size)).2 : Int)) = _
  by_cases hh : 1 < (decG (s.extract i s.size)).2
  · rw [decide_eq_true hh, decide_eq_true (by omega)]
  · rw [decide_eq_false hh, decide_eq_false (by omega)]

theorem c_Name (hD : DecC W0) (s : Str) (hs : s.size ≤ 2 ^ 60) (h : H) : ACalls Tryd.prog W0 20 [.v (V.s s)] h fun r h' => r = .v (V.b (isName s)) ∧ h' = h := by
  have key : ∀ b : Bool, b = isName s → A.v (V.b b) = A.v (V.b (isName s)) := by rintro b rfl; rfl
  refine ACalls.of (C := CO [] fun _ => ([], [], 0)) (cOkO _ _) hP (fn := Tryd.f20) (by kernel_rfl) (by kernel_rfl) ?_
  refine ⟨0, [0, 7], 1, fun m xs l h2 => ∃ pos : Nat, xs = [.v (V.s s), .lp 0 0] ∧ l = [.iter s pos] ∧ h2 = h ∧ nameFrom s m pos = nameFrom s (s.size + 1) 0 ∧ s.size < m + pos, ⟨s.size + 1, 0, rfl, rfl, rfl, rfl, by show s.size < s.size + 1 + 0; omega⟩, ?_⟩
  rintro m xs l h2 ⟨pos, rfl, rfl, rfl, hf, hm⟩
  replace hm : s.size < (m : Nat) + pos := hm
  refine ⟨rfl, fun hlt => ?_, fun hge => ?_⟩
  · refine ⟨fun _ => ?_, fun c => nomatch c⟩
    cases m with
    | zero => omega
    | succ m =>
    have hw := Lib.width_pos s pos
    rw [nameFrom_succ, if_pos hlt] at hf
    refine (c_letter W0 ((Utf8.decode s pos).1 : Int) _).mono ?_
    rintro _ _ ⟨rfl, rfl⟩
    refine ⟨rfl, V.b (isRight s pos (Utf8.decode s pos).1), fun hg => (c_right W0 hD s pos (by omega) _ _), ?_⟩
    refine ⟨fun c4 => ?_, fun c4 => ?_⟩
    · refine ⟨key false ?_, rfl⟩
      have hc : ((isLetter ((Utf8.decode s pos).1 : Int) || (decide (48 ≤ ((Utf8.decode s pos).1 : Int)) && decide (((Utf8.decode s pos).1 : Int) ≤ 57) && decide (0 < pos))) && isRight s pos (Utf8.decode s pos).1) = false := by
        have c5 : (bif (bif !isLetter ((Utf8.decode s pos).1 : Int) then !(bif (bif decide (48 ≤ ((Utf8.decode s pos).1 : Int)) then decide (((Utf8.decode s pos).1 : Int) ≤ 57) else false) then decide ((0:Int) < (pos : Int)) else false) else false) then true else !isRight s pos (Utf8.decode s pos).1) = true := c4
        have hp : decide ((0:Int) < (pos : Int)) = decide (0 < pos) := by
          by_cases hh : 0 < pos
          · rw [decide_eq_true hh, decide_eq_true (by omega)]
          · rw [decide_eq_false hh, decide_eq_false (by omega)]
        rw [hp] at c5
        revert c5
        cases isLetter ((Utf8.decode s pos).1 : Int) <;> cases decide (48 ≤ ((Utf8.decode s pos).1 : Int)) <;> cases decide (((Utf8.decode s pos).1 : Int) ≤ 57) <;> cases decide (0 < pos) <;> cases isRight s pos (Utf8.decode s pos).1 <;> decide
      unfold isName
      rw [← hf]
      rw [hc]; rfl
    · have hc : ((isLetter ((Utf8.decode s pos).1 : Int) || (decide (48 ≤ ((Utf8.decode s pos).1 : Int)) && decide (((Utf8.decode s pos).1 : Int) ≤ 57) && decide (0 < pos))) && isRight s pos (Utf8.decode s pos).1) = true := by
        have c5 : (bif (bif !isLetter ((Utf8.decode s pos).1 : Int) then !(bif (bif decide (48 ≤ ((Utf8.decode s pos).1 : Int)) then decide (((Utf8.decode s pos).1 : Int) ≤ 57) else false) then decide ((0:Int) < (pos : Int)) else false) else false) then true else !isRight s pos (Utf8.decode s pos).1) = false := c4
        have hp : decide ((0:Int) < (pos : Int)) = decide (0 < pos) := by
          by_cases hh : 0 < pos
          · rw [decide_eq_true hh, decide_eq_true (by omega)]
          · rw [decide_eq_false hh, decide_eq_false (by omega)]
        rw [hp] at c5
        revert c5
        cases isLetter ((Utf8.decode s pos).1 : Int) <;> cases decide (48 ≤ ((Utf8.decode s pos).1 : Int)) <;> cases decide (((Utf8.decode s pos).1 : Int) ≤ 57) <;> cases decide (0 < pos) <;> cases isRight s pos (Utf8.decode s pos).1 <;> decide
      rw [hc] at hf
      refine ⟨m, by show m < m + 1; omega, pos + (Utf8.decode s pos).2, rfl, rfl, rfl, hf, by show s.size < m + (pos + (Utf8.decode s pos).2); omega⟩
  · refine ⟨fun c => (nomatch c), fun _ => ?_⟩
    have hn : nameFrom s (s.size + 1) 0 = true := by
      rw [← hf]
      cases m with
      | zero => rfl
      | succ m => rw [nameFrom_succ, if_neg (by omega)]
    refine ⟨key _ ?_, rfl⟩
    unfold isName
    rw [hn]
    show (bif !decide (s = ⟨#[]⟩) then decide ((s.size : Int) ≤ 100) else false) = _
    have hp : decide ((s.size : Int) ≤ 100) = decide (s.size ≤ 100) := by
      by_cases hh : s.size ≤ 100
      · rw [decide_eq_true hh, decide_eq_true (by omega)]
      · rw [decide_eq_false hh, decide_eq_false (by omega)]
    rw [hp]
    by_cases hz : s = ⟨#[]⟩
    · simp [hz]
    · simp [hz]
end Go.AI

namespace Go.AI
open Go.Proofs Go
variable (W0 : World)
set_option maxRecDepth 20000
set_option maxHeartbeats 1000000

theorem dec_pos (k : Nat) : decide ((0:Int) < (k : Int)) = decide (0 < k) := by
  by_cases hh : 0 < k
  · rw [decide_eq_true hh, decide_eq_true (by omega)]
  · rw [decide_eq_false hh, decide_eq_false (by omega)]
theorem dec_lt (n m : Nat) (i : Int) (hi : i = m) : decide (i < (n : Int)) = !decide (n ≤ m) := by
  subst hi
  by_cases hh : n ≤ m
  · rw [decide_eq_true hh, decide_eq_false (by omega)]; rfl
  · rw [decide_eq_false hh, decide_eq_true (by omega)]; rfl

def prevN (d : List Col) (c : Col) : Col := (d.getLast?).getD c
def lastN (d : List Col) : Option Str := (d.getLast?).map (·.name)
theorem prev_ord (d : List Col) (c : Col) : (bif decide ((0:Int) < (d.length : Int)) then !strLess (prevN d c).name c.name else false) = !(match lastN d with | some n => strLess n c.name | none => true) := by
  rcases List.eq_nil_or_concat d with rfl | ⟨d', x, rfl⟩
  · rfl
  · simp [prevN, lastN]
theorem prev_get (d : List Col) (c : Col) (r : List Col) (i : Int) (hi : i = (d.length : Int) - 1) (h : 0 < d.length) : ((d ++ c :: r).map fun c => V.agg c.v)[i.toNat]? = some (.agg (prevN d c).v) := by
  rcases List.eq_nil_or_concat d with rfl | ⟨d', x, rfl⟩
  · simp at h
  · have : i.toNat = d'.length := by subst hi; simp
    rw [this]; simp [prevN]

theorem c_checkRow (hD : DecC W0) (r : Row) (hk : r.cols.length ≤ 2 ^ 45) (hn : ∀ c ∈ r.cols, c.name.size ≤ 2 ^ 60) (h : H) : ACalls Tryd.prog W0 31 [.v (.agg r.v)] h fun x h' => x = .v (V.b (checkRow r)) ∧ h' = h := by
  obtain ⟨key, ⟨val, dead, at_, end_⟩, gone, shade, cols⟩ := r
  replace hk : cols.length ≤ 2 ^ 45 := hk
  replace hn : ∀ c ∈ cols, c.name.size ≤ 2 ^ 60 := hn
  have kk : ∀ b : Bool, b = checkRow ⟨key, ⟨val, dead, at_, end_⟩, gone, shade, cols⟩ → A.v (V.b b) = A.v (V.b (checkRow ⟨key, ⟨val, dead, at_, end_⟩, gone, shade, cols⟩)) := by rintro b rfl; rfl
  have hsp : checkRow ⟨key, ⟨val, dead, at_, end_⟩, gone, shade, cols⟩ = ((((((((decide (key.size ≤ 400) && checkCell ⟨val, dead, at_, end_⟩) && decide (val = ⟨#[]⟩)) && !dead) && stampB gone) && stampB shade) && decide (cols.length ≤ 8)) && colsOK none cols)) := rfl
  have hcl : (cols.map fun c => V.agg c.v).length = cols.length := List.length_map ..
  refine ACalls.of (C := CO [] fun i => match i with | 6 => ([0, 1, 2, 3, 4, 5, 6, 7, 8, 9, 10, 11, 12, 13, 14, 15, 16, 17, 18, 19, 20, 21, 22, 23, 24, 25, 26, 27, 28, 29, 30, 31], [], 1) | _ => ([], [], 0)) (cOkO _ _) hP (fn := Tryd.f31) (by kernel_rfl) (by kernel_rfl) ?_
  refine ⟨rfl, V.b (checkCell ⟨val, dead, at_, end_⟩), fun hg => (c_checkCell W0 ⟨val, dead, at_, end_⟩ _), ?_⟩
  refine ⟨rfl, V.b (stampB gone), fun hg => (c_rstamp W0 gone _), ?_⟩
  refine ⟨rfl, V.b (stampB shade), fun hg => (c_rstamp W0 shade _), ?_⟩
  have conv : ∀ x : Bool, x = (bif (bif (bif (bif (bif (bif decide ((400:Int) < (key.size : Int)) then true else !checkCell ⟨val, dead, at_, end_⟩) then true else !decide (val = ⟨#[]⟩)) then true else dead) then true else !stampB gone) then true else !stampB shade) then true else decide ((8:Int) < ((cols.map fun c => V.agg c.v).length : Int))) →
      x = !(((((((decide (key.size ≤ 400) && checkCell ⟨val, dead, at_, end_⟩) && decide (val = ⟨#[]⟩)) && !dead) && stampB gone) && stampB shade) && decide (cols.length ≤ 8))) := by
    rintro x rfl
    rw [hcl, dec_lt key.size 400 400 rfl, dec_lt cols.length 8 8 rfl]
    cases decide (key.size ≤ 400) <;> cases checkCell ⟨val, dead, at_, end_⟩ <;> cases decide (val = ⟨#[]⟩) <;> cases dead <;> cases stampB gone <;> cases stampB shade <;> cases decide (cols.length ≤ 8) <;> rfl
  refine ⟨fun c4 => ?_, fun c4 => ?_⟩
  · replace c4 := (conv _ rfl).symm.trans c4
    refine ⟨kk false ?_, rfl⟩
    rw [hsp, not_t c4]; rfl
  replace c4 := (conv _ rfl).symm.trans c4
  replace c4 := not_f c4
  have hsp2 : checkRow ⟨key, ⟨val, dead, at_, end_⟩, gone, shade, cols⟩ = colsOK none cols := by rw [hsp, c4]; rfl
  refine ⟨0, [1, 45, 46, 47], 1, fun m xs l h2 => ∃ (d r : List Col) (k n : Int), xs = [.lp 0 0, .v (.sl 5 (cols.map fun c => .agg c.v)), .v (V.i n), .v (V.i k)] ∧
      l = [.cells [.v (V.s key), .v (V.s val), .v (V.b dead), .v (V.i at_), .v (V.i end_), .v (V.i gone), .v (V.i shade), .v (.sl 5 (cols.map fun c => .agg c.v))]] ∧ h2 = h ∧ m = r.length ∧ cols = d ++ r ∧ k = d.length ∧ n = cols.length ∧
      colsOK none cols = colsOK (lastN d) r,
    ⟨cols.length, [], cols, _, _, rfl, rfl, rfl, rfl, rfl, rfl, by rw [← hcl], rfl⟩, ?_⟩
  rintro m xs l h2 ⟨d, r, k, n, rfl, rfl, rfl, rfl, hd, rfl, rfl, hacc⟩
  have hdl : cols.length = d.length + r.length := by rw [hd, List.length_append]
  refine ⟨fun c6 => ?_, fun c6 => ?_⟩
  · replace c6 : (d.length : Int) < (cols.length : Int) := of_decide_eq_true c6
    cases r with
    | nil => exact absurd hdl (by simp only [List.length_nil]; omega)
    | cons c r =>
    have hget : (cols.map fun c => V.agg c.v)[d.length]? = some (.agg c.v) := by rw [hd]; exact map_get _ d c r
    have hm : c ∈ cols := by rw [hd]; simp
    simp only [List.length_cons] at hdl
    refine ⟨.agg c.v, ⟨by show (0:Int) ≤ (d.length : Int); omega, ?_⟩, ?_⟩
    · show (cols.map fun c => V.agg c.v)[((d.length : Nat) : Int).toNat]? = _
      rw [Int.toNat_natCast]; exact hget
    refine ⟨[], fun _ => false, ?_⟩
    refine (c_Name W0 hD c.name (hn c hm) _).mono ?_
    rintro _ _ ⟨rfl, rfl⟩
    refine ⟨fun hg => by show inI64 ((d.length : Int) - 1); unfold inI64; omega, ?_⟩
    refine ⟨.agg (prevN d c).v, fun hg => ?_, ?_⟩
    · have hg' : (bif isName c.name then decide ((0:Int) < (d.length : Int)) else false) = true := by
        revert hg; cases isName c.name <;> cases decide ((0:Int) < (d.length : Int)) <;> decide
      have hpos : 0 < d.length := by
        rw [dec_pos] at hg'
        revert hg'
        cases isName c.name
        · intro h; cases h
        · exact of_decide_eq_true
      refine ⟨by show (0:Int) ≤ (d.length : Int) - 1; omega, ?_⟩
      show (cols.map fun c => V.agg c.v)[((d.length : Int) - 1).toNat]? = _
      rw [hd]; exact prev_get d c r _ rfl hpos
    refine ⟨Nat.zero_le _, ?_⟩
    refine ⟨rfl, V.b (checkCell c.cell), fun hg => (c_checkCell W0 c.cell _), ?_⟩
    have hor := prev_ord d c
    have conv : ∀ x : Bool, x = (bif (bif (bif !isName c.name then true else (bif decide ((0:Int) < (d.length : Int)) then !strLess (prevN d c).name c.name else false)) then true else !checkCell c.cell) then true else decide (c.cell.at_ ≤ 0)) →
        x = !(isName c.name && (match lastN d with | some n => strLess n c.name | none => true) && checkCell c.cell && decide (0 < c.cell.at_)) := by
      rintro x rfl
      rw [hor]
      have : decide (c.cell.at_ ≤ 0) = !decide (0 < c.cell.at_) := by
        by_cases hh : 0 < c.cell.at_
        · rw [decide_eq_true hh, decide_eq_false (by omega)]; rfl
        · rw [decide_eq_false hh, decide_eq_true (by omega)]; rfl
      rw [this]
      cases isName c.name <;> cases (match lastN d with | some n => strLess n c.name | none => true) <;> cases checkCell c.cell <;> cases decide (0 < c.cell.at_) <;> rfl
    have hst : colsOK (lastN d) (c :: r) = (isName c.name && (match lastN d with | some n => strLess n c.name | none => true) && checkCell c.cell && decide (0 < c.cell.at_) && colsOK (some c.name) r) := rfl
    refine ⟨fun c8 => ?_, fun c8 => ?_⟩
    · replace c8 := (conv _ rfl).symm.trans c8
      refine ⟨kk false ?_, rfl⟩
      rw [hsp2, hacc, hst, not_t c8]; rfl
    · replace c8 := (conv _ rfl).symm.trans c8
      replace c8 := not_f c8
      refine ⟨by show inI64 ((d.length : Int) + 1); unfold inI64; omega, ?_⟩
      refine ⟨r.length, by show r.length < r.length + 1; omega, d ++ [c], r, _, _, rfl, rfl, rfl, rfl, by rw [hd]; simp, by simp, rfl, ?_⟩
      rw [hacc, hst, c8]; simp [lastN]
  · replace c6 : ¬ (d.length : Int) < (cols.length : Int) := of_decide_eq_false c6
    cases r with
    | cons c r => exact absurd hdl (by simp only [List.length_cons]; omega)
    | nil =>
    refine ⟨kk true ?_, rfl⟩
    rw [hsp2, hacc]; rfl
end Go.AI

namespace Go.AI
open Go.Proofs Go
variable (W0 : World)
set_option maxRecDepth 20000
set_option maxHeartbeats 1000000

/-- Lists that are no longer than memory. -/
def Row.sized (r : Row) : Prop := r.cols.length ≤ 2 ^ 45 ∧ ∀ c ∈ r.cols, c.name.size ≤ 2 ^ 60
def Part.sized (p : Part) : Prop := p.rows.length ≤ 2 ^ 45 ∧ ∀ r ∈ p.rows, r.sized

def prevR (d : List Row) (c : Row) : Row := (d.getLast?).getD c
def lastR (d : List Row) : Option Str := (d.getLast?).map (·.key)
theorem prevR_ord (d : List Row) (c : Row) : (bif decide ((0:Int) < (d.length : Int)) then !strLess (prevR d c).key c.key else false) = !(match lastR d with | some n => strLess n c.key | none => true) := by
  rcases List.eq_nil_or_concat d with rfl | ⟨d', x, rfl⟩
  · rfl
  · simp [prevR, lastR]
theorem prevR_get (d : List Row) (c : Row) (r : List Row) (i : Int) (hi : i = (d.length : Int) - 1) (h : 0 < d.length) : ((d ++ c :: r).map fun c => V.agg c.v)[i.toNat]? = some (.agg (prevR d c).v) := by
  rcases List.eq_nil_or_concat d with rfl | ⟨d', x, rfl⟩
  · simp at h
  · have : i.toNat = d'.length := by subst hi; simp
    rw [this]; simp [prevR]

theorem c_checkPart (hD : DecC W0) (p : Part) (hp : p.sized) (h : H) : ACalls Tryd.prog W0 21 [.v (.agg p.v)] h fun x h' => x = .v (V.b (checkPart p)) ∧ h' = h := by
  obtain ⟨key, gone, rows⟩ := p
  obtain ⟨hk, hn⟩ := hp
  replace hk : rows.length ≤ 2 ^ 45 := hk
  replace hn : ∀ r ∈ rows, r.sized := hn
  have kk : ∀ b : Bool, b = checkPart ⟨key, gone, rows⟩ → A.v (V.b b) = A.v (V.b (checkPart ⟨key, gone, rows⟩)) := by rintro b rfl; rfl
  have hsp : checkPart ⟨key, gone, rows⟩ = ((((decide (key.size ≤ 100) && decide (0 ≤ gone)) && decide (gone ≤ 1099511627776)) && decide (rows.length ≤ 100)) && rowsOK none rows) := rfl
  have hcl : (rows.map fun c => V.agg c.v).length = rows.length := List.length_map ..
  refine ACalls.of (C := CO [] fun i => match i with | 6 => ([0, 1, 2, 3, 4, 5, 6, 7, 8, 9, 10, 11, 12, 13, 14, 15, 16, 17, 18], [], 1) | _ => ([], [], 0)) (cOkO _ _) hP (fn := Tryd.f21) (by kernel_rfl) (by kernel_rfl) ?_
  have conv : ∀ x : Bool, x = (bif (bif (bif decide ((100:Int) < (key.size : Int)) then true else decide (gone < 0)) then true else decide (1099511627776 < gone)) then true else decide ((100:Int) < ((rows.map fun c => V.agg c.v).length : Int))) →
      x = !(((decide (key.size ≤ 100) && decide (0 ≤ gone)) && decide (gone ≤ 1099511627776)) && decide (rows.length ≤ 100)) := by
    rintro x rfl
    have e1 : decide (gone < 0) = !decide (0 ≤ gone) := by
      by_cases hh : 0 ≤ gone
      · rw [decide_eq_true hh, decide_eq_false (by omega)]; rfl
      · rw [decide_eq_false hh, decide_eq_true (by omega)]; rfl
    have e2 : decide (1099511627776 < gone) = !decide (gone ≤ 1099511627776) := by
      by_cases hh : gone ≤ 1099511627776
      · rw [decide_eq_true hh, decide_eq_false (by omega)]; rfl
      · rw [decide_eq_false hh, decide_eq_true (by omega)]; rfl
    rw [hcl, dec_lt key.size 100 100 rfl, dec_lt rows.length 100 100 rfl, e1, e2]
    cases decide (key.size ≤ 100) <;> cases decide (0 ≤ gone) <;> cases decide (gone ≤ 1099511627776) <;> cases decide (rows.length ≤ 100) <;> rfl
  refine ⟨fun c4 => ?_, fun c4 => ?_⟩
  · replace c4 := (conv _ rfl).symm.trans c4
    refine ⟨kk false ?_, rfl⟩
    rw [hsp, not_t c4]; rfl
  replace c4 := (conv _ rfl).symm.trans c4
  replace c4 := not_f c4
  have hsp2 : checkPart ⟨key, gone, rows⟩ = rowsOK none rows := by rw [hsp, c4]; rfl
  refine ⟨0, [1, 26, 27, 28], 1, fun m xs l h2 => ∃ (d r : List Row) (k n : Int), xs = [.lp 0 0, .v (.sl 8 (rows.map fun c => .agg c.v)), .v (V.i n), .v (V.i k)] ∧
      l = [.cells [.v (V.s key), .v (V.i gone), .v (.sl 8 (rows.map fun c => .agg c.v))]] ∧ h2 = h ∧ m = r.length ∧ rows = d ++ r ∧ k = d.length ∧ n = rows.length ∧
      rowsOK none rows = rowsOK (lastR d) r,
    ⟨rows.length, [], rows, _, _, rfl, rfl, rfl, rfl, rfl, rfl, by rw [← hcl], rfl⟩, ?_⟩
  rintro m xs l h2 ⟨d, r, k, n, rfl, rfl, rfl, rfl, hd, rfl, rfl, hacc⟩
  have hdl : rows.length = d.length + r.length := by rw [hd, List.length_append]
  refine ⟨fun c6 => ?_, fun c6 => ?_⟩
  · replace c6 : (d.length : Int) < (rows.length : Int) := of_decide_eq_true c6
    cases r with
    | nil => exact absurd hdl (by simp only [List.length_nil]; omega)
    | cons c r =>
    have hget : (rows.map fun c => V.agg c.v)[d.length]? = some (.agg c.v) := by rw [hd]; exact map_get _ d c r
    have hm : c ∈ rows := by rw [hd]; simp
    simp only [List.length_cons] at hdl
    refine ⟨.agg c.v, ⟨by show (0:Int) ≤ (d.length : Int); omega, ?_⟩, ?_⟩
    · show (rows.map fun c => V.agg c.v)[((d.length : Nat) : Int).toNat]? = _
      rw [Int.toNat_natCast]; exact hget
    refine ⟨[], fun _ => false, ?_⟩
    refine (c_checkRow W0 hD c (hn c hm).1 (hn c hm).2 _).mono ?_
    rintro _ _ ⟨rfl, rfl⟩
    refine ⟨fun hg => by show inI64 ((d.length : Int) - 1); unfold inI64; omega, ?_⟩
    refine ⟨.agg (prevR d c).v, fun hg => ?_, ?_⟩
    · have hg' : (bif checkRow c then decide ((0:Int) < (d.length : Int)) else false) = true := by
        revert hg; cases checkRow c <;> cases decide ((0:Int) < (d.length : Int)) <;> decide
      have hpos : 0 < d.length := by
        rw [dec_pos] at hg'
        revert hg'
        cases checkRow c
        · intro h; cases h
        · exact of_decide_eq_true
      refine ⟨by show (0:Int) ≤ (d.length : Int) - 1; omega, ?_⟩
      show (rows.map fun c => V.agg c.v)[((d.length : Int) - 1).toNat]? = _
      rw [hd]; exact prevR_get d c r _ rfl hpos
    refine ⟨Nat.zero_le _, ?_⟩
    have hor := prevR_ord d c
    have conv : ∀ x : Bool, x = (bif !checkRow c then true else (bif decide ((0:Int) < (d.length : Int)) then !strLess (prevR d c).key c.key else false)) →
        x = !(checkRow c && (match lastR d with | some n => strLess n c.key | none => true)) := by
      rintro x rfl
      rw [hor]
      cases checkRow c <;> cases (match lastR d with | some n => strLess n c.key | none => true) <;> rfl
    have hst : rowsOK (lastR d) (c :: r) = (checkRow c && (match lastR d with | some n => strLess n c.key | none => true) && rowsOK (some c.key) r) := rfl
    refine ⟨fun c8 => ?_, fun c8 => ?_⟩
    · replace c8 := (conv _ rfl).symm.trans c8
      refine ⟨kk false ?_, rfl⟩
      rw [hsp2, hacc, hst, not_t c8]; rfl
    · replace c8 := (conv _ rfl).symm.trans c8
      replace c8 := not_f c8
      refine ⟨by show inI64 ((d.length : Int) + 1); unfold inI64; omega, ?_⟩
      refine ⟨r.length, by show r.length < r.length + 1; omega, d ++ [c], r, _, _, rfl, rfl, rfl, rfl, by rw [hd]; simp, by simp, rfl, ?_⟩
      rw [hacc, hst, c8]; simp [lastR]
  · replace c6 : ¬ (d.length : Int) < (rows.length : Int) := of_decide_eq_false c6
    cases r with
    | cons c r => exact absurd hdl (by simp only [List.length_cons]; omega)
    | nil =>
    refine ⟨kk true ?_, rfl⟩
    rw [hsp2, hacc]; rfl
end Go.AI

namespace Go.AI
open Go.Proofs Go
variable (W0 : World)
set_option maxRecDepth 20000
set_option maxHeartbeats 1000000

theorem c_fail (b : List UInt8) (s : RS) (k x : Nat) {h : H} (hx : h x = some (RD b s)) :
    ACalls Tryd.prog W0 86 [.v (.ptr x 0), .v (V.i k)] h fun r h' => r = .v (.tup []) ∧ h' = h.upd x (RD b (s.fail k)) := by
  refine ACalls.of (C := CO [] fun _ => ([], [], 0)) (cOkO _ _) hP (fn := Tryd.f86) (by kernel_rfl) (by kernel_rfl) ?_
  refine ⟨_, ⟨hx, trivial⟩, ?_⟩
  refine ⟨fun c1 => ?_, fun c1 => ?_⟩
  · replace c1 : s.e = 0 := by
      have : ((s.e : Int) == 0) = true := c1
      simpa using this
    refine ⟨rfl, _, hx, ?_⟩
    refine ⟨rfl, ?_⟩
    rw [RS.fail_pos c1]; rfl
  · replace c1 : ¬ s.e = 0 := by
      have : ((s.e : Int) == 0) = false := c1
      simpa using this
    refine ⟨rfl, ?_⟩
    rw [RS.fail_neg c1, H.upd_self hx]; rfl

theorem c_left (b : List UInt8) (s : RS) (x : Nat) (hb : b.length ≤ 2 ^ 45) (hp : s.p ≤ b.length) {h : H} (hx : h x = some (RD b s)) :
    ACalls Tryd.prog W0 98 [.v (.ptr x 0)] h fun r h' => r = .v (V.i ((b.length - s.p : Nat) : Int)) ∧ h' = h := by
  have hl := bytes_length b
  refine ACalls.of (C := CO [] fun i => match i with | 1 => ([0, 1, 2, 3, 4, 5, 6, 7, 8, 9, 10], [], 0) | _ => ([], [], 0)) (cOkO _ _) hP (fn := Tryd.f98) (by kernel_rfl) (by kernel_rfl) ?_
  refine ⟨_, ⟨hx, trivial⟩, ?_⟩
  refine ⟨_, ⟨hx, trivial⟩, ?_⟩
  refine ⟨by show inI64 (((V.bytes b).length : Int) - (s.p : Int)); unfold inI64; omega, ?_⟩
  refine ⟨?_, rfl⟩
  have : ((V.bytes b).length : Int) - (s.p : Int) = ((b.length - s.p : Nat) : Int) := by omega
  exact congrArg (fun n => A.v (V.i n)) this

theorem c_any (b : List UInt8) (s : RS) (x : Nat) (hb : b.length ≤ 2 ^ 45) (hs : s.ok b) {h : H} (hx : h x = some (RD b s)) :
    ACalls Tryd.prog W0 94 [.v (.ptr x 0)] h fun r h' => r = .v (.lit (.int .u64 (rAny b s).1)) ∧ h' = h.upd x (RD b (rAny b s).2) := by
  have hp := hs.1
  refine ACalls.of (C := CO [] fun i => match i with | 3 => ([0, 1, 2, 3, 4, 5, 6, 7, 8, 9, 10, 11, 12, 13, 14, 15], [], 1) | _ => ([], [], 0)) (cOkO _ _) hP (fn := Tryd.f94) (by kernel_rfl) (by kernel_rfl) ?_
  refine ⟨_, ⟨hx, trivial⟩, ?_⟩
  refine ⟨fun c1 => ?_, fun c1 => ?_⟩
  · replace c1 : ¬ s.e = 0 := by
      have : ((s.e : Int) != 0) = true := c1
      simpa using this
    rw [rAny_neg c1, H.upd_self hx]
    exact ⟨rfl, rfl⟩
  replace c1 : s.e = 0 := by
    have : ((s.e : Int) != 0) = false := c1
    simpa using this
  rw [rAny_pos c1]
  refine ⟨[], fun y => Nat.beq y x, ?_⟩
  refine ⟨_, ⟨hx, Nat.beq_refl x⟩, ?_⟩
  refine ⟨_, ⟨hx, Nat.beq_refl x⟩, ?_⟩
  refine (c_GetNum W0 b s.p (by omega) hb _).mono ?_
  rintro _ _ ⟨rfl, rfl⟩
  rw [H.back_hide]
  refine ⟨fun c3 => ?_, fun c3 => ?_⟩
  · replace c3 : ¬ (getNum b s.p).2.2 = 0 := by
      have : (((getNum b s.p).2.2 : Int) != 0) = true := c3
      simpa using this
    refine (c_fail W0 b s (getNum b s.p).2.2 x hx).mono ?_
    rintro _ _ ⟨rfl, rfl⟩
    rw [if_neg c3, RS.fail_pos c1]
    exact ⟨rfl, rfl⟩
  replace c3 : (getNum b s.p).2.2 = 0 := by
    have : (((getNum b s.p).2.2 : Int) != 0) = false := c3
    simpa using this
  rw [if_pos c3]
  refine ⟨rfl, _, hx, ?_⟩
  refine ⟨rfl, ?_⟩
  show h.upd x (.cells [_, _, .v (V.i s.e)]) = _
  rw [c1]; rfl
end Go.AI

namespace Go.AI
open Go.Proofs Go
variable (W0 : World)
set_option maxRecDepth 20000
set_option maxHeartbeats 1000000

theorem c_rnum (b : List UInt8) (s : RS) (x : Nat) (hb : b.length ≤ 2 ^ 45) (hs : s.ok b) {h : H} (hx : h x = some (RD b s)) :
    ACalls Tryd.prog W0 88 [.v (.ptr x 0)] h fun r h' => r = .v (V.i (rNum b s).1) ∧ h' = h.upd x (RD b (rNum b s).2) := by
  have hok := rAny_ok hs
  refine ACalls.of (C := CO [] fun _ => ([], [], 0)) (cOkO _ _) hP (fn := Tryd.f88) (by kernel_rfl) (by kernel_rfl) ?_
  refine (c_any W0 b s x hb hs hx).mono ?_
  rintro _ _ ⟨rfl, rfl⟩
  refine ⟨fun c1 => ?_, fun c1 => ?_⟩
  · replace c1 : 1099511627776 < (rAny b s).1 := by
      have : (1099511627776 : Int) < ((rAny b s).1 : Int) := of_decide_eq_true c1
      omega
    refine (c_fail W0 b (rAny b s).2 6 x (H.upd_get _ _ _)).mono ?_
    rintro _ _ ⟨rfl, rfl⟩
    have e : rNum b s = (0, (rAny b s).2.fail 6) := by unfold rNum; rw [if_pos c1]
    rw [e, H.upd_upd]
    exact ⟨rfl, rfl⟩
  replace c1 : ¬ 1099511627776 < (rAny b s).1 := by
    have : ¬ (1099511627776 : Int) < ((rAny b s).1 : Int) := of_decide_eq_false c1
    omega
  refine ⟨((rAny b s).1 : Int), wrapI64 (by omega) (by omega), ?_⟩
  have e : rNum b s = rAny b s := by unfold rNum; rw [if_neg c1]
  rw [e]
  exact ⟨rfl, rfl⟩

theorem c_rcount (b : List UInt8) (s : RS) (x : Nat) (hb : b.length ≤ 2 ^ 45) (hs : s.ok b) {h : H} (hx : h x = some (RD b s)) :
    ACalls Tryd.prog W0 93 [.v (.ptr x 0)] h fun r h' => r = .v (V.i (rCount b s).1) ∧ h' = h.upd x (RD b (rCount b s).2) := by
  have hok := rAny_ok hs
  have hle := hok.1.1
  have tail : ∀ s2 : RS, ((s2.e : Int) != 0) = false → s2.e = 0 := fun s2 h => by simpa using h
  have tail' : ∀ s2 : RS, ((s2.e : Int) != 0) = true → ¬ s2.e = 0 := fun s2 h => by simpa using h
  refine ACalls.of (C := CO [] fun _ => ([], [], 0)) (cOkO _ _) hP (fn := Tryd.f93) (by kernel_rfl) (by kernel_rfl) ?_
  refine (c_any W0 b s x hb hs hx).mono ?_
  rintro _ _ ⟨rfl, rfl⟩
  refine (c_left W0 b (rAny b s).2 x hb hle (H.upd_get _ _ _)).mono ?_
  rintro _ _ ⟨rfl, rfl⟩
  refine ⟨((b.length - (rAny b s).2.p : Nat) : Int), wrapU64 (by omega) (by omega), ?_⟩
  refine ⟨fun c1 => ?_, fun c1 => ?_⟩
  · replace c1 : b.length - (rAny b s).2.p < (rAny b s).1 := by
      have : ((b.length - (rAny b s).2.p : Nat) : Int) < ((rAny b s).1 : Int) := of_decide_eq_true c1
      omega
    refine (c_fail W0 b (rAny b s).2 8 x (H.upd_get _ _ _)).mono ?_
    rintro _ _ ⟨rfl, rfl⟩
    rw [H.upd_upd]
    refine ⟨_, ⟨H.upd_get _ _ _, trivial⟩, ?_⟩
    refine ⟨fun c5 => ?_, fun c5 => ?_⟩
    · replace c5 := tail' _ c5
      have e : rCount b s = (0, (rAny b s).2.fail 8) := by simp only [rCount]; rw [if_pos c1, if_neg c5]
      rw [e]
      exact ⟨rfl, rfl⟩
    · replace c5 := tail _ c5
      exfalso
      by_cases h0 : (rAny b s).2.e = 0
      · rw [RS.fail_pos h0] at c5; cases c5
      · rw [RS.fail_neg h0] at c5; exact h0 c5
  replace c1 : ¬ b.length - (rAny b s).2.p < (rAny b s).1 := by
    have : ¬ ((b.length - (rAny b s).2.p : Nat) : Int) < ((rAny b s).1 : Int) := of_decide_eq_false c1
    omega
  refine ⟨_, ⟨H.upd_get _ _ _, trivial⟩, ?_⟩
  refine ⟨fun c5 => ?_, fun c5 => ?_⟩
  · replace c5 := tail' _ c5
    have e : rCount b s = (0, (rAny b s).2) := by simp only [rCount]; rw [if_neg c1, if_neg c5]
    rw [e]
    exact ⟨rfl, rfl⟩
  · replace c5 := tail _ c5
    refine ⟨((rAny b s).1 : Int), wrapI64 (by omega) (by omega), ?_⟩
    have e : rCount b s = ((rAny b s).1, (rAny b s).2) := by simp only [rCount]; rw [if_neg c1, if_pos c5]
    rw [e]
    exact ⟨rfl, rfl⟩

theorem c_rtext (b : List UInt8) (s : RS) (x : Nat) (hb : b.length ≤ 2 ^ 45) (hs : s.ok b) {h : H} (hx : h x = some (RD b s)) :
    ACalls Tryd.prog W0 87 [.v (.ptr x 0)] h fun r h' => r = .v (V.s (rText b s).1) ∧ h' = h.upd x (RD b (rText b s).2) := by
  obtain ⟨n, s1, hc⟩ : ∃ n s1, rCount b s = (n, s1) := ⟨_, _, rfl⟩
  have hok := rCount_ok hs
  rw [hc] at hok
  have hle : s1.p + n ≤ b.length := hok.2
  have hl := bytes_length b
  have cc := c_rcount W0 b s x hb hs hx
  rw [hc] at cc
  have ht : rText b s = (⟨((b.drop s1.p).take n).toArray⟩, ⟨s1.p + n, s1.e⟩) := by unfold rText; rw [hc]
  have hby : ((V.bytes b).take ((s1.p : Int) + (n : Int)).toNat).drop ((s1.p : Int)).toNat = V.bytes ((b.drop s1.p).take n) := by
    have e1 : ((s1.p : Int) + (n : Int)).toNat = s1.p + n := by omega
    have e2 : (s1.p : Int).toNat = s1.p := by omega
    have e3 : s1.p + n - s1.p = n := by omega
    rw [bytes_take_drop, e1, e2, List.drop_take, e3]
  rw [ht]
  refine ACalls.of (C := CO [] fun i => match i with | 2 => ([0, 1, 2, 3, 4, 5, 6, 7, 8, 9, 10, 11, 12, 13, 14, 15, 16], [], 0) | _ => ([], [], 0)) (cOkO _ _) hP (fn := Tryd.f87) (by kernel_rfl) (by kernel_rfl) ?_
  refine cc.mono ?_
  rintro _ _ ⟨rfl, rfl⟩
  refine ⟨_, ⟨H.upd_get _ _ _, trivial⟩, ?_⟩
  refine ⟨_, ⟨H.upd_get _ _ _, trivial⟩, ?_⟩
  refine ⟨_, ⟨H.upd_get _ _ _, trivial⟩, ?_⟩
  refine ⟨by show inI64 ((s1.p : Int) + (n : Int)); unfold inI64; omega, ?_⟩
  refine ⟨⟨by show (0:Int) ≤ (s1.p : Int) + (n : Int); omega, by show (s1.p : Int) + (n : Int) ≤ ((V.bytes b).length : Int); omega⟩, ?_⟩
  refine ⟨⟨by show (0:Int) ≤ (s1.p : Int); omega, by show (s1.p : Int) ≤ ((((s1.p : Int) + (n : Int)).toNat : Nat) : Int); omega⟩, ?_⟩
  refine ⟨(b.drop s1.p).take n, hby, ?_⟩
  refine ⟨_, ⟨H.upd_get _ _ _, trivial⟩, ?_⟩
  refine ⟨by show inI64 ((s1.p : Int) + (n : Int)); unfold inI64; omega, ?_⟩
  refine ⟨rfl, _, H.upd_get _ _ _, ?_⟩
  refine ⟨rfl, ?_⟩
  exact H.upd_upd _ _ _ _

theorem c_rtruth (b : List UInt8) (s : RS) (x : Nat) (hb : b.length ≤ 2 ^ 45) (hs : s.ok b) {h : H} (hx : h x = some (RD b s)) :
    ACalls Tryd.prog W0 99 [.v (.ptr x 0)] h fun r h' => r = .v (V.b (rTruth b s).1) ∧ h' = h.upd x (RD b (rTruth b s).2) := by
  have hp := hs.1
  have hl := bytes_length b
  have tail : ∀ s2 : RS, ((s2.e : Int) != 0) = false → s2.e = 0 := fun s2 h => by simpa using h
  have tail' : ∀ s2 : RS, ((s2.e : Int) != 0) = true → ¬ s2.e = 0 := fun s2 h => by simpa using h
  refine ACalls.of (C := CO [] fun i => match i with | 5 => ([0, 1, 2, 3, 4, 5, 6, 7, 8, 9, 10], [], 0) | _ => ([], [], 0)) (cOkO _ _) hP (fn := Tryd.f99) (by kernel_rfl) (by kernel_rfl) ?_
  refine ⟨_, ⟨hx, trivial⟩, ?_⟩
  refine ⟨rfl, V.i ((b.length - s.p : Nat) : Int), fun hg => ?_, ?_⟩
  · refine (c_left W0 b s x hb hp (h := h.seen .full) hx).mono fun _ _ h => h
  have conv : ∀ y : Bool, y = (bif ((s.e : Int) == 0) then (((b.length - s.p : Nat) : Int) == 0) else false) → (y = true ↔ s.e = 0 ∧ s.p = b.length) := by
    rintro y rfl
    simp only [Bool.cond_false_right, Bool.and_eq_true, beq_iff_eq]
    omega
  refine ⟨fun c1 => ?_, fun c1 => ?_⟩
  · obtain ⟨h0, h1⟩ := (conv _ rfl).1 c1
    refine (c_fail W0 b s 8 x hx).mono ?_
    rintro _ _ ⟨rfl, rfl⟩
    refine ⟨_, ⟨H.upd_get _ _ _, trivial⟩, ?_⟩
    refine ⟨fun c5 => ?_, fun c5 => ?_⟩
    · have e : rTruth b s = (false, s.fail 8) := by unfold rTruth; rw [if_pos h0, if_pos h1, RS.fail_pos h0]
      rw [e]
      exact ⟨rfl, rfl⟩
    · replace c5 := tail _ c5
      rw [RS.fail_pos h0] at c5; cases c5
  replace c1 : ¬ (s.e = 0 ∧ s.p = b.length) := fun hh => Bool.false_ne_true (c1.symm.trans ((conv _ rfl).2 hh))
  refine ⟨_, ⟨hx, trivial⟩, ?_⟩
  refine ⟨fun c5 => ?_, fun c5 => ?_⟩
  · replace c5 := tail' _ c5
    have e : rTruth b s = (false, s) := by unfold rTruth; rw [if_neg c5]
    rw [e, H.upd_self hx]
    exact ⟨rfl, rfl⟩
  replace c5 := tail _ c5
  have hlt : s.p < b.length := by
    have : ¬ s.p = b.length := fun h => c1 ⟨c5, h⟩
    omega
  have e : rTruth b s = (decide ((b[s.p]?.getD 0).toNat = 1), if 1 < (b[s.p]?.getD 0).toNat then ⟨s.p + 1, 6⟩ else ⟨s.p + 1, 0⟩) := by
    unfold rTruth; rw [if_pos c5, if_neg (by omega)]
  have hdec : (((b[s.p]?.getD 0).toNat : Int) == 1) = decide ((b[s.p]?.getD 0).toNat = 1) := by
    by_cases hh : (b[s.p]?.getD 0).toNat = 1
    · rw [hh]; rfl
    · rw [decide_eq_false hh]; simp; omega
  refine ⟨_, ⟨hx, trivial⟩, ?_⟩
  refine ⟨_, ⟨hx, trivial⟩, ?_⟩
  refine ⟨V.u8 (b[s.p]?.getD 0), ⟨by show (0:Int) ≤ (s.p : Int); omega, ?_⟩, ?_⟩
  · show (V.bytes b)[((s.p : Nat) : Int).toNat]? = _
    rw [Int.toNat_natCast]; exact bytes_get b s.p hlt
  refine ⟨_, ⟨hx, trivial⟩, ?_⟩
  refine ⟨by show inI64 ((s.p : Int) + 1); unfold inI64; omega, ?_⟩
  refine ⟨rfl, _, hx, ?_⟩
  have hst : ∀ h : H, h.upd x (.cells [.v (.sl 1 (V.bytes b)), .v (V.i ((s.p : Int) + 1)), .v (V.i (s.e : Int))]) = h.upd x (RD b ⟨s.p + 1, 0⟩) := by
    intro h; rw [c5]; rfl
  refine ⟨fun c6 => ?_, fun c6 => ?_⟩
  · replace c6 : 1 < (b[s.p]?.getD 0).toNat := by
      have : (1 : Int) < ((b[s.p]?.getD 0).toNat : Int) := of_decide_eq_true c6
      omega
    refine (c_fail W0 b ⟨s.p + 1, 0⟩ 6 x (h := h.upd x (.cells [.v (.sl 1 (V.bytes b)), .v (V.i ((s.p : Int) + 1)), .v (V.i (s.e : Int))])) (by rw [hst]; exact H.upd_get _ _ _)).mono ?_
    rintro _ _ ⟨rfl, rfl⟩
    rw [e, if_pos c6]
    refine ⟨congrArg (fun y => A.v (V.b y)) hdec, ?_⟩
    exact H.upd_upd _ _ _ _
  · replace c6 : ¬ 1 < (b[s.p]?.getD 0).toNat := by
      have : ¬ (1 : Int) < ((b[s.p]?.getD 0).toNat : Int) := of_decide_eq_false c6
      omega
    rw [e, if_neg c6]
    exact ⟨congrArg (fun y => A.v (V.b y)) hdec, hst h⟩
end Go.AI

namespace Go.AI
open Go.Proofs Go
variable (W0 : World)
set_option maxRecDepth 20000
set_option maxHeartbeats 1000000

theorem c_rcell (b : List UInt8) (s : RS) (x : Nat) (hb : b.length ≤ 2 ^ 45) (hs : s.ok b) {h : H} (hx : h x = some (RD b s)) :
    ACalls Tryd.prog W0 95 [.v (.ptr x 0)] h fun r h' => r = .v (.agg (rCell b s).1.v) ∧ h' = h.upd x (RD b (rCell b s).2) := by
  obtain ⟨n, s1, e1⟩ : ∃ n s1, rNum b s = (n, s1) := ⟨_, _, rfl⟩
  obtain ⟨d, s2, e2⟩ : ∃ d s2, rTruth b s1 = (d, s2) := ⟨_, _, rfl⟩
  obtain ⟨t, s3, e3⟩ : ∃ t s3, rText b s2 = (t, s3) := ⟨_, _, rfl⟩
  obtain ⟨e, s4, e4⟩ : ∃ e s4, rNum b s3 = (e, s4) := ⟨_, _, rfl⟩
  have hs1 : s1.ok b := by have := (rNum_ok hs).1; rw [e1] at this; exact this
  have hs2 : s2.ok b := by have := rTruth_ok hs1; rw [e2] at this; exact this
  have hs3 : s3.ok b := by have := rText_ok hs2; rw [e3] at this; exact this
  have c1 := c_rnum W0 b s x hb hs hx; rw [e1] at c1
  have c2 := c_rtruth W0 b s1 x hb hs1 (H.upd_get h x (RD b s1)); rw [e2] at c2
  have c3 := c_rtext W0 b s2 x hb hs2 (H.upd_get (h.upd x (RD b s1)) x (RD b s2)); rw [e3] at c3
  have c4 := c_rnum W0 b s3 x hb hs3 (H.upd_get ((h.upd x (RD b s1)).upd x (RD b s2)) x (RD b s3)); rw [e4] at c4
  have kk : ∀ (q : Cell × RS), rCell b s = q → (A.v (.agg q.1.v) = A.v (.agg (rCell b s).1.v) ∧ h.upd x (RD b q.2) = h.upd x (RD b (rCell b s).2)) := by rintro q rfl; exact ⟨rfl, rfl⟩
  refine ACalls.of (C := CO [] fun _ => ([], [], 0)) (cOkO _ _) hP (fn := Tryd.f95) (by kernel_rfl) (by kernel_rfl) ?_
  refine c1.mono ?_
  rintro _ _ ⟨rfl, rfl⟩
  refine ⟨fun q1 => ?_, fun q1 => ?_⟩
  · replace q1 : n = 0 := by
      have : ((n : Int) == 0) = true := q1
      simpa using this
    have := kk (⟨⟨#[]⟩, false, 0, 0⟩, s1) (by simp only [rCell, e1, if_pos q1])
    subst q1
    exact this
  replace q1 : ¬ n = 0 := by
    have : ((n : Int) == 0) = false := q1
    simpa using this
  refine c2.mono ?_
  rintro _ _ ⟨rfl, rfl⟩
  refine ⟨fun q2 => ?_, fun q2 => ?_⟩
  · replace q2 : d = false := not_t q2
    refine c3.mono ?_
    rintro _ _ ⟨rfl, rfl⟩
    refine c4.mono ?_
    rintro _ _ ⟨rfl, rfl⟩
    have := kk (⟨t, false, n, e⟩, s4) (by simp only [rCell, e1, if_neg q1, e2, q2, e3, e4]; rfl)
    subst q2
    have e9 : (((h.upd x (RD b s1)).upd x (RD b s2)).upd x (RD b s3)).upd x (RD b s4) = h.upd x (RD b s4) := by rw [H.upd_upd, H.upd_upd, H.upd_upd]
    exact ⟨this.1, e9.trans this.2⟩
  · replace q2 : d = true := not_f q2
    have := kk (⟨⟨#[]⟩, true, n, 0⟩, s2) (by simp only [rCell, e1, if_neg q1, e2, q2, if_true])
    subst q2
    exact ⟨this.1, (H.upd_upd h x (RD b s1) (RD b s2)).trans this.2⟩

theorem c_rcol (b : List UInt8) (s : RS) (x : Nat) (hb : b.length ≤ 2 ^ 45) (hs : s.ok b) {h : H} (hx : h x = some (RD b s)) :
    ACalls Tryd.prog W0 97 [.v (.ptr x 0)] h fun r h' => r = .v (.agg (rCol b s).1.v) ∧ h' = h.upd x (RD b (rCol b s).2) := by
  obtain ⟨t, s1, e1⟩ : ∃ t s1, rText b s = (t, s1) := ⟨_, _, rfl⟩
  obtain ⟨c, s2, e2⟩ : ∃ c s2, rCell b s1 = (c, s2) := ⟨_, _, rfl⟩
  have hs1 : s1.ok b := by have := rText_ok hs; rw [e1] at this; exact this
  have c1 := c_rtext W0 b s x hb hs hx; rw [e1] at c1
  have c2 := c_rcell W0 b s1 x hb hs1 (H.upd_get h x (RD b s1)); rw [e2] at c2
  have e : rCol b s = (⟨t, c⟩, s2) := by simp only [rCol, e1, e2]
  rw [e]
  refine ACalls.of (C := CO [] fun _ => ([], [], 0)) (cOkO _ _) hP (fn := Tryd.f97) (by kernel_rfl) (by kernel_rfl) ?_
  refine c1.mono ?_
  rintro _ _ ⟨rfl, rfl⟩
  refine c2.mono ?_
  rintro _ _ ⟨rfl, rfl⟩
  refine ⟨rfl, ?_⟩
  exact H.upd_upd _ _ _ _
end Go.AI

namespace Go.AI
open Go.Proofs Go
variable (W0 : World)
set_option maxRecDepth 20000
set_option maxHeartbeats 1000000

theorem rMany_len {α : Type} (one : RS → α × RS) : ∀ (n : Nat) (s : RS), (rMany one n s).1.length ≤ n := by
  intro n
  induction n with
  | zero => intro s; exact Nat.le_refl 0
  | succ n ih =>
    intro s; simp only [rMany]
    split
    · simp only [List.length_cons]; have := ih (one s).2; omega
    · exact Nat.zero_le _

theorem c_cols (b : List UInt8) (s : RS) (x : Nat) (hb : b.length ≤ 2 ^ 32) (hs : s.ok b) {h : H} (hx : h x = some (RD b s)) :
    ACalls Tryd.prog W0 96 [.v (.ptr x 0), .v (.lit (.func (.func 97) #[] #[]))] h fun r h' =>
      r = .own 5 ((rList b (rCol b) s).1.map fun c => .agg c.v) ∧ h' = h.upd x (RD b (rList b (rCol b) s).2) := by
  obtain ⟨n, s1, e1⟩ : ∃ n s1, rCount b s = (n, s1) := ⟨_, _, rfl⟩
  have hok := rCount_ok hs; rw [e1] at hok
  have hs1 : s1.ok b := hok.1
  have hn : s1.p + n ≤ b.length := hok.2
  have c1 := c_rcount W0 b s x (by omega) hs hx; rw [e1] at c1
  have el : rList b (rCol b) s = rMany (rCol b) n s1 := by simp only [rList, e1]
  rw [el]
  refine ACalls.of (C := CO [20, 26] fun _ => ([], [], 0)) (cOkO _ _) hP (fn := Tryd.f96) (by kernel_rfl) (by kernel_rfl) ?_
  refine c1.mono ?_
  rintro _ _ ⟨rfl, rfl⟩
  refine ⟨0, [0, 1, 5, 6], 0, fun m xs l h2 => l = [] ∧ ∃ (acc : List V) (k : Int) (L : List Col) (s2 : RS), xs = [.v (.ptr x 0), .v (.lit (.func (.func 97) #[] #[])), .own 5 acc, .v (V.i k)] ∧ h2 = h.upd x (RD b s2) ∧
      k = (m : Nat) ∧ acc = L.map (fun c => .agg c.v) ∧ s2.ok b ∧ L.length + m = n ∧ L ++ (rMany (rCol b) m s2).1 = (rMany (rCol b) n s1).1 ∧ (rMany (rCol b) m s2).2 = (rMany (rCol b) n s1).2,
    ⟨n, rfl, [], _, [], s1, rfl, rfl, rfl, rfl, hs1, by show 0 + n = n; omega, rfl, rfl⟩, ?_⟩
  rintro m xs l h2 ⟨rfl, acc, k, L, s2, rfl, rfl, rfl, rfl, hs2, hL, hl1, hl2⟩
  replace hL : L.length + (m : Nat) = n := hL
  refine ⟨_, fun _ => ⟨H.upd_get _ _ _, trivial⟩, ?_⟩
  have conv : ∀ y : Bool, y = (bif decide ((0:Int) < ((m : Nat) : Int)) then ((s2.e : Int) == 0) else false) → (y = true ↔ 0 < (m : Nat) ∧ s2.e = 0) := by
    rintro y rfl
    simp only [Bool.cond_false_right, Bool.and_eq_true, beq_iff_eq, decide_eq_true_eq]
    omega
  refine ⟨fun c2 => ?_, fun c2 => ?_⟩
  · obtain ⟨g1, g2⟩ := (conv _ rfl).1 c2
    cases m with
    | zero => omega
    | succ m =>
    have hm : rMany (rCol b) (m + 1) s2 = ((rCol b s2).1 :: (rMany (rCol b) m (rCol b s2).2).1, (rMany (rCol b) m (rCol b s2).2).2) := by
      simp only [rMany]; rw [if_pos g2]
    rw [hm] at hl1 hl2
    refine (c_rcol W0 b s2 x (by omega) hs2 (H.upd_get _ _ _)).mono ?_
    rintro _ _ ⟨rfl, rfl⟩
    refine ⟨?_, _, rfl, ?_⟩
    · show ((L.map fun c => V.agg c.v).length + 1) * 56 ≤ 70368744177664
      rw [List.length_map]; omega
    refine ⟨by show inI64 (((m + 1 : Nat) : Int) - 1); unfold inI64; omega, ?_⟩
    refine ⟨m, by show m < m + 1; omega, rfl, _, _, L ++ [(rCol b s2).1], (rCol b s2).2, rfl, H.upd_upd _ _ _ _, by omega, by simp; rfl, rCol_ok hs2, by simp; omega, ?_, hl2⟩
    rw [← hl1]; simp
  · replace c2 : ¬ (0 < (m : Nat) ∧ s2.e = 0) := fun hh => Bool.false_ne_true (c2.symm.trans ((conv _ rfl).2 hh))
    have hm : rMany (rCol b) m s2 = ([], s2) := by
      cases m with
      | zero => rfl
      | succ m => simp only [rMany]; rw [if_neg (fun h0 => c2 ⟨Nat.succ_pos m, h0⟩)]
    rw [hm] at hl1 hl2
    rw [← hl1, ← hl2]
    simp only [List.append_nil]
    exact ⟨rfl, rfl⟩

theorem c_rrow (b : List UInt8) (s : RS) (x : Nat) (hb : b.length ≤ 2 ^ 32) (hs : s.ok b) {h : H} (hx : h x = some (RD b s)) :
    ACalls Tryd.prog W0 90 [.v (.ptr x 0)] h fun r h' => r = .v (.agg (rRow b s).1.v) ∧ h' = h.upd x (RD b (rRow b s).2) := by
  obtain ⟨k, s1, e1⟩ : ∃ n s1, rText b s = (n, s1) := ⟨_, _, rfl⟩
  obtain ⟨c, s2, e2⟩ : ∃ d s2, rCell b s1 = (d, s2) := ⟨_, _, rfl⟩
  obtain ⟨g, s3, e3⟩ : ∃ t s3, rNum b s2 = (t, s3) := ⟨_, _, rfl⟩
  obtain ⟨d, s4, e4⟩ : ∃ e s4, rNum b s3 = (e, s4) := ⟨_, _, rfl⟩
  obtain ⟨l, s5, e5⟩ : ∃ e s5, rList b (rCol b) s4 = (e, s5) := ⟨_, _, rfl⟩
  have hs1 : s1.ok b := by have := rText_ok hs; rw [e1] at this; exact this
  have hs2 : s2.ok b := by have := rCell_ok hs1; rw [e2] at this; exact this
  have hs3 : s3.ok b := by have := (rNum_ok hs2).1; rw [e3] at this; exact this
  have hs4 : s4.ok b := by have := (rNum_ok hs3).1; rw [e4] at this; exact this
  have c1 := c_rtext W0 b s x (by omega) hs hx; rw [e1] at c1
  have c2 := c_rcell W0 b s1 x (by omega) hs1 (H.upd_get h x (RD b s1)); rw [e2, H.upd_upd] at c2
  have c3 := c_rnum W0 b s2 x (by omega) hs2 (H.upd_get h x (RD b s2)); rw [e3, H.upd_upd] at c3
  have c4 := c_rnum W0 b s3 x (by omega) hs3 (H.upd_get h x (RD b s3)); rw [e4, H.upd_upd] at c4
  have c5 := c_cols W0 b s4 x hb hs4 (H.upd_get h x (RD b s4)); rw [e5, H.upd_upd] at c5
  have e : rRow b s = (⟨k, c, g, d, l⟩, s5) := by simp only [rRow, e1, e2, e3, e4, e5]
  rw [e]
  refine ACalls.of (C := CO [] fun _ => ([], [], 0)) (cOkO _ _) hP (fn := Tryd.f90) (by kernel_rfl) (by kernel_rfl) ?_
  refine c1.mono ?_
  rintro _ _ ⟨rfl, rfl⟩
  refine c2.mono ?_
  rintro _ _ ⟨rfl, rfl⟩
  refine c3.mono ?_
  rintro _ _ ⟨rfl, rfl⟩
  refine c4.mono ?_
  rintro _ _ ⟨rfl, rfl⟩
  refine c5.mono ?_
  rintro _ _ ⟨rfl, rfl⟩
  exact ⟨rfl, rfl⟩
end Go.AI

namespace Go.AI
open Go.Proofs Go
variable (W0 : World)
set_option maxRecDepth 20000
set_option maxHeartbeats 1000000

theorem c_rows (b : List UInt8) (s : RS) (x : Nat) (hb : b.length ≤ 2 ^ 32) (hs : s.ok b) {h : H} (hx : h x = some (RD b s)) :
    ACalls Tryd.prog W0 89 [.v (.ptr x 0), .v (.lit (.func (.func 90) #[] #[]))] h fun r h' =>
      r = .own 8 ((rList b (rRow b) s).1.map fun c => .agg c.v) ∧ h' = h.upd x (RD b (rList b (rRow b) s).2) := by
  obtain ⟨n, s1, e1⟩ : ∃ n s1, rCount b s = (n, s1) := ⟨_, _, rfl⟩
  have hok := rCount_ok hs; rw [e1] at hok
  have hs1 : s1.ok b := hok.1
  have hn : s1.p + n ≤ b.length := hok.2
  have c1 := c_rcount W0 b s x (by omega) hs hx; rw [e1] at c1
  have el : rList b (rRow b) s = rMany (rRow b) n s1 := by simp only [rList, e1]
  rw [el]
  refine ACalls.of (C := CO [20, 26] fun _ => ([], [], 0)) (cOkO _ _) hP (fn := Tryd.f89) (by kernel_rfl) (by kernel_rfl) ?_
  refine c1.mono ?_
  rintro _ _ ⟨rfl, rfl⟩
  refine ⟨0, [0, 1, 5, 6], 0, fun m xs l h2 => l = [] ∧ ∃ (acc : List V) (k : Int) (L : List Row) (s2 : RS), xs = [.v (.ptr x 0), .v (.lit (.func (.func 90) #[] #[])), .own 8 acc, .v (V.i k)] ∧ h2 = h.upd x (RD b s2) ∧
      k = (m : Nat) ∧ acc = L.map (fun c => .agg c.v) ∧ s2.ok b ∧ L.length + m = n ∧ L ++ (rMany (rRow b) m s2).1 = (rMany (rRow b) n s1).1 ∧ (rMany (rRow b) m s2).2 = (rMany (rRow b) n s1).2,
    ⟨n, rfl, [], _, [], s1, rfl, rfl, rfl, rfl, hs1, by show 0 + n = n; omega, rfl, rfl⟩, ?_⟩
  rintro m xs l h2 ⟨rfl, acc, k, L, s2, rfl, rfl, rfl, rfl, hs2, hL, hl1, hl2⟩
  replace hL : L.length + (m : Nat) = n := hL
  refine ⟨_, fun _ => ⟨H.upd_get _ _ _, trivial⟩, ?_⟩
  have conv : ∀ y : Bool, y = (bif decide ((0:Int) < ((m : Nat) : Int)) then ((s2.e : Int) == 0) else false) → (y = true ↔ 0 < (m : Nat) ∧ s2.e = 0) := by
    rintro y rfl
    simp only [Bool.cond_false_right, Bool.and_eq_true, beq_iff_eq, decide_eq_true_eq]
    omega
  refine ⟨fun c2 => ?_, fun c2 => ?_⟩
  · obtain ⟨g1, g2⟩ := (conv _ rfl).1 c2
    cases m with
    | zero => omega
    | succ m =>
    have hm : rMany (rRow b) (m + 1) s2 = ((rRow b s2).1 :: (rMany (rRow b) m (rRow b s2).2).1, (rMany (rRow b) m (rRow b s2).2).2) := by
      simp only [rMany]; rw [if_pos g2]
    rw [hm] at hl1 hl2
    refine (c_rrow W0 b s2 x hb hs2 (H.upd_get _ _ _)).mono ?_
    rintro _ _ ⟨rfl, rfl⟩
    refine ⟨?_, _, rfl, ?_⟩
    · show ((L.map fun c => V.agg c.v).length + 1) * 96 ≤ 70368744177664
      rw [List.length_map]; omega
    refine ⟨by show inI64 (((m + 1 : Nat) : Int) - 1); unfold inI64; omega, ?_⟩
    refine ⟨m, by show m < m + 1; omega, rfl, _, _, L ++ [(rRow b s2).1], (rRow b s2).2, rfl, H.upd_upd _ _ _ _, by omega, by simp; rfl, rRow_ok hs2, by simp; omega, ?_, hl2⟩
    rw [← hl1]; simp
  · replace c2 : ¬ (0 < (m : Nat) ∧ s2.e = 0) := fun hh => Bool.false_ne_true (c2.symm.trans ((conv _ rfl).2 hh))
    have hm : rMany (rRow b) m s2 = ([], s2) := by
      cases m with
      | zero => rfl
      | succ m => simp only [rMany]; rw [if_neg (fun h0 => c2 ⟨Nat.succ_pos m, h0⟩)]
    rw [hm] at hl1 hl2
    rw [← hl1, ← hl2]
    simp only [List.append_nil]
    exact ⟨rfl, rfl⟩

theorem c_rend (b : List UInt8) (s : RS) (x : Nat) (hb : b.length ≤ 2 ^ 45) (hs : s.ok b) {h : H} (hx : h x = some (RD b s)) :
    ACalls Tryd.prog W0 91 [.v (.ptr x 0)] h fun r h' => r = .v (.tup []) ∧ h' = h.upd x (RD b (rEnd b s)) := by
  have hp := hs.1
  refine ACalls.of (C := CO [] fun _ => ([], [], 0)) (cOkO _ _) hP (fn := Tryd.f91) (by kernel_rfl) (by kernel_rfl) ?_
  refine (c_left W0 b s x hb hs.1 hx).mono ?_
  rintro _ _ ⟨rfl, rfl⟩
  refine ⟨fun c1 => ?_, fun c1 => ?_⟩
  · replace c1 : s.p < b.length := by
      have : (0 : Int) < ((b.length - s.p : Nat) : Int) := of_decide_eq_true c1
      omega
    refine (c_fail W0 b s 6 x hx).mono ?_
    rintro _ _ ⟨rfl, rfl⟩
    have e : rEnd b s = s.fail 6 := by unfold rEnd; rw [if_pos c1]
    rw [e]
    exact ⟨rfl, rfl⟩
  · replace c1 : ¬ s.p < b.length := by
      have : ¬ (0 : Int) < ((b.length - s.p : Nat) : Int) := of_decide_eq_false c1
      omega
    have e : rEnd b s = s := by unfold rEnd; rw [if_neg c1]
    rw [e, H.upd_self hx]
    exact ⟨rfl, rfl⟩

theorem c_rpart (b : List UInt8) (s : RS) (x : Nat) (hb : b.length ≤ 2 ^ 32) (hs : s.ok b) {h : H} (hx : h x = some (RD b s)) :
    ACalls Tryd.prog W0 82 [.v (.ptr x 0)] h fun r h' => r = .v (.agg (rPart b s).1.v) ∧ h' = h.upd x (RD b (rPart b s).2) := by
  obtain ⟨k, s1, e1⟩ : ∃ n s1, rText b s = (n, s1) := ⟨_, _, rfl⟩
  obtain ⟨g, s2, e2⟩ : ∃ t s2, rNum b s1 = (t, s2) := ⟨_, _, rfl⟩
  obtain ⟨l, s3, e3⟩ : ∃ e s3, rList b (rRow b) s2 = (e, s3) := ⟨_, _, rfl⟩
  have hs1 : s1.ok b := by have := rText_ok hs; rw [e1] at this; exact this
  have hs2 : s2.ok b := by have := (rNum_ok hs1).1; rw [e2] at this; exact this
  have hs3 : s3.ok b := by have := rList_ok (one := rRow b) (fun s hs => rRow_ok hs) hs2; rw [e3] at this; exact this
  have c1 := c_rtext W0 b s x (by omega) hs hx; rw [e1] at c1
  have c2 := c_rnum W0 b s1 x (by omega) hs1 (H.upd_get h x (RD b s1)); rw [e2, H.upd_upd] at c2
  have c3 := c_rows W0 b s2 x hb hs2 (H.upd_get h x (RD b s2)); rw [e3, H.upd_upd] at c3
  have c4 := c_rend W0 b s3 x (by omega) hs3 (H.upd_get h x (RD b s3)); rw [H.upd_upd] at c4
  have e : rPart b s = (⟨k, g, l⟩, rEnd b s3) := by simp only [rPart, e1, e2, e3]
  rw [e]
  refine ACalls.of (C := CO [] fun _ => ([], [], 0)) (cOkO _ _) hP (fn := Tryd.f82) (by kernel_rfl) (by kernel_rfl) ?_
  refine c1.mono ?_
  rintro _ _ ⟨rfl, rfl⟩
  refine c2.mono ?_
  rintro _ _ ⟨rfl, rfl⟩
  refine c3.mono ?_
  rintro _ _ ⟨rfl, rfl⟩
  refine c4.mono ?_
  rintro _ _ ⟨rfl, rfl⟩
  exact ⟨rfl, rfl⟩

theorem c_read (b : List UInt8) (hb : b.length ≤ 2 ^ 32) (h : H) :
    ACalls Tryd.prog W0 81 [.v (.sl 1 (V.bytes b))] h fun r h' => ∃ x, r = .v (.ptr x 0) ∧ h x = none ∧ h' = h.upd x (RD b (if 262144 < b.length then ⟨0, 2⟩ else ⟨0, 0⟩)) := by
  have hl := bytes_length b
  refine ACalls.of (C := CO [] fun _ => ([], [], 0)) (cOkO _ _) hP (fn := Tryd.f81) (by kernel_rfl) (by kernel_rfl) ?_
  refine ⟨fun c1 => ?_, fun c1 => ?_⟩
  · replace c1 : 262144 < b.length := by
      have : (262144 : Int) < ((V.bytes b).length : Int) := of_decide_eq_true c1
      omega
    intro x hx
    refine (c_fail W0 b ⟨0, 0⟩ 2 x (H.upd_get _ _ _)).mono ?_
    rintro _ _ ⟨rfl, rfl⟩
    rw [if_pos c1]
    exact ⟨x, rfl, hx, H.upd_upd _ _ _ _⟩
  · replace c1 : ¬ 262144 < b.length := by
      have : ¬ (262144 : Int) < ((V.bytes b).length : Int) := of_decide_eq_false c1
      omega
    intro x hx
    rw [if_neg c1]
    exact ⟨x, rfl, hx, rfl⟩

theorem c_Read (b : List UInt8) (hb : b.length ≤ 2 ^ 32) (h : H) :
    ACalls Tryd.prog W0 79 [.v (.sl 1 (V.bytes b))] h fun r h' => r = .v (.tup [.agg (readPart b).1.v, V.i (readPart b).2]) ∧ h' = h := by
  have hs : RS.ok b (if 262144 < b.length then ⟨0, 2⟩ else ⟨0, 0⟩) := by
    split
    · exact ⟨Nat.zero_le _, by show (2:Nat) < 16; decide⟩
    · exact ⟨Nat.zero_le _, by show (0:Nat) < 16; decide⟩
  have er : ∀ s0 : RS, (if 262144 < b.length then (⟨0, 2⟩ : RS) else ⟨0, 0⟩) = s0 → readPart b = ((rPart b s0).1, (rPart b s0).2.e) := by
    rintro s0 rfl; rfl
  obtain ⟨s0, es⟩ : ∃ s0 : RS, (if 262144 < b.length then (⟨0, 2⟩ : RS) else ⟨0, 0⟩) = s0 := ⟨_, rfl⟩
  have c0 := c_read W0 b hb h
  rw [es] at hs c0
  rw [er s0 es]
  refine ACalls.forget (Q := fun r h' => r = .v (.tup [.agg (rPart b s0).1.v, V.i (rPart b s0).2.e]) ∧ ∃ x o, h x = none ∧ h' = h.upd x o) ?_ (by rintro a h' ⟨rfl, x, o, hx, rfl⟩; exact ⟨h, H.le_upd hx, rfl, rfl⟩)
  refine ACalls.of (C := CO [] fun i => match i with | 3 => ([0, 1, 2, 3, 4, 5, 6], [], 2) | _ => ([], [], 0)) (cOkO _ _) hP (fn := Tryd.f79) (by kernel_rfl) (by kernel_rfl) ?_
  refine c0.mono ?_
  rintro _ _ ⟨x, rfl, hx, rfl⟩
  refine (c_rpart W0 b s0 x hb hs (H.upd_get _ _ _)).mono ?_
  rintro _ _ ⟨rfl, rfl⟩
  refine ⟨0, ?_⟩
  refine ⟨_, ⟨H.upd_get _ _ _, trivial⟩, ?_⟩
  exact ⟨rfl, x, _, hx, H.upd_upd _ _ _ _⟩
end Go.AI

namespace Go.AI
open Go.Proofs Go
variable (W0 : World)
set_option maxRecDepth 20000
set_option maxHeartbeats 1000000

theorem checkPart_len {p : Part} (hc : checkPart p = true) : p.rows.length ≤ 100 ∧ ∀ r ∈ p.rows, r.cols.length ≤ 8 := by
  simp only [checkPart, Bool.and_eq_true, decide_eq_true_eq] at hc
  refine ⟨hc.1.2, ?_⟩
  have : ∀ (l : List Row) (o : Option Str), rowsOK o l = true → ∀ r ∈ l, r.cols.length ≤ 8 := by
    intro l
    induction l with
    | nil => intro o _ r hr; cases hr
    | cons a l ih =>
      intro o h r hr
      simp only [rowsOK, Bool.and_eq_true] at h
      rcases List.mem_cons.1 hr with rfl | hr
      · have h1 := h.1.1
        simp only [checkRow, Bool.and_eq_true, decide_eq_true_eq] at h1
        exact h1.1.2
      · exact ih _ h.2 r hr
  exact this _ _ hc.2

/-- A partition as bytes, if it may be. -/
def putPart (p : Part) : List UInt8 × Int := if checkPart p then (if 262144 < (encPart p).length then ([], 2) else (encPart p, 0)) else ([], 1)
theorem c_Part (hD : DecC W0) (p : Part) (hp : p.sized) (hb : checkPart p = true → (encPart p).length ≤ 2 ^ 45) (h : H) :
    ACalls Tryd.prog W0 77 [.v (.agg p.v)] h fun r h' => r = .v (.tup [.sl 1 (V.bytes (putPart p).1), V.i (putPart p).2]) ∧ h' = h := by
  have kk : ∀ q : List UInt8 × Int, putPart p = q → (A.v (.tup [.sl 1 (V.bytes q.1), V.i q.2]) = A.v (.tup [.sl 1 (V.bytes (putPart p).1), V.i (putPart p).2])) := by rintro q rfl; rfl
  have cc := c_checkPart W0 hD p hp
  obtain ⟨key, gone, rows⟩ := p
  refine ACalls.of (C := CO [13] fun _ => ([], [], 0)) (cOkO _ _) hP (fn := Tryd.f77) (by kernel_rfl) (by kernel_rfl) ?_
  refine (cc _).mono ?_
  rintro _ _ ⟨rfl, rfl⟩
  refine ⟨fun c1 => ?_, fun c1 => ?_⟩
  · replace c1 : checkPart ⟨key, gone, rows⟩ = false := not_t c1
    exact ⟨kk ([], 1) (by unfold putPart; rw [if_neg (by rw [c1]; exact Bool.false_ne_true)]), rfl⟩
  replace c1 : checkPart ⟨key, gone, rows⟩ = true := not_f c1
  have hl := checkPart_len c1
  refine (c_whole W0 ⟨key, gone, rows⟩ (checkPart_pos c1) (hb c1) (by omega) (fun r hr => by have := hl.2 r hr; omega) _).mono ?_
  rintro _ _ ⟨rfl, rfl⟩
  have hbl := bytes_length (encPart ⟨key, gone, rows⟩)
  refine ⟨fun c2 => ?_, fun c2 => ?_⟩
  · replace c2 : 262144 < (encPart ⟨key, gone, rows⟩).length := by
      have : (262144 : Int) < ((V.bytes (encPart ⟨key, gone, rows⟩)).length : Int) := of_decide_eq_true c2
      omega
    exact ⟨kk ([], 2) (by unfold putPart; rw [if_pos c1, if_pos c2]), rfl⟩
  · replace c2 : ¬ 262144 < (encPart ⟨key, gone, rows⟩).length := by
      have : ¬ (262144 : Int) < ((V.bytes (encPart ⟨key, gone, rows⟩)).length : Int) := of_decide_eq_false c2
      omega
    exact ⟨kk (encPart ⟨key, gone, rows⟩, 0) (by unfold putPart; rw [if_pos c1, if_neg c2]), rfl⟩

theorem c_in (v most : Int) (h : H) : ACalls Tryd.prog W0 15 [.v (V.i v), .v (V.i most)] h fun r h' => r = .v (V.b (inB v most)) ∧ h' = h := by
  refine ACalls.of (C := CO [] fun _ => ([], [], 0)) (cOkO _ _) hP (fn := Tryd.f15) (by kernel_rfl) (by kernel_rfl) ?_
  exact ⟨rfl, rfl⟩
theorem c_chk1 (s : Str) (h : H) : ACalls Tryd.prog W0 17 [.v (V.s s)] h fun r h' => r = .v (V.b (!decide (s.size ≤ 100))) ∧ h' = h := by
  refine ACalls.of (C := CO [] fun _ => ([], [], 0)) (cOkO _ _) hP (fn := Tryd.f17) (by kernel_rfl) (by kernel_rfl) ?_
  exact ⟨congrArg (fun x => A.v (V.b x)) (dec_lt s.size 100 100 rfl), rfl⟩
def Mut.sized (m : Mut) : Prop := m.table.size ≤ 2 ^ 60 ∧ m.part.sized
theorem c_chk2 (hD : DecC W0) (m : Mut) (hm : m.sized) (h : H) : ACalls Tryd.prog W0 19 [.v (.agg m.v)] h fun r h' => r = .v (V.b (!(isName m.table && checkPart m.part))) ∧ h' = h := by
  obtain ⟨t, k, g, rows⟩ := m
  refine ACalls.of (C := CO [] fun _ => ([], [], 0)) (cOkO _ _) hP (fn := Tryd.f19) (by kernel_rfl) (by kernel_rfl) ?_
  refine (c_Name W0 hD t hm.1 _).mono ?_
  rintro _ _ ⟨rfl, rfl⟩
  refine ⟨rfl, V.b (checkPart ⟨k, g, rows⟩), fun hg => c_checkPart W0 hD ⟨k, g, rows⟩ hm.2 _, ?_⟩
  refine ⟨congrArg (fun x => A.v (V.b x)) ?_, rfl⟩
  show (bif !isName t then true else !checkPart ⟨k, g, rows⟩) = !(isName t && checkPart ⟨k, g, rows⟩)
  cases isName t <;> cases checkPart ⟨k, g, rows⟩ <;> rfl

theorem c_idx1 (l : List Str) (hl : l.length ≤ 2 ^ 45) (h : H) :
    ACalls Tryd.prog W0 27 [.v (.sl 1 (l.map V.s)), .v (.lit (.func (.func 17) #[] #[]))] h fun r h' => ∃ n : Int, r = .v (V.i n) ∧ decide (0 ≤ n) = l.any (fun s => !decide (s.size ≤ 100)) ∧ h' = h := by
  have hcl : (l.map V.s).length = l.length := List.length_map ..
  refine ACalls.of (C := CO [] fun _ => ([], [], 0)) (cOkO _ _) hP (fn := Tryd.f27) (by kernel_rfl) (by kernel_rfl) ?_
  refine ⟨0, [0, 1, 7, 8], 0, fun m xs lo h2 => lo = [] ∧ ∃ (d r : List Str) (k n : Int), xs = [.v (.sl 1 (l.map V.s)), .v (.lit (.func (.func 17) #[] #[])), .v (V.i n), .v (V.i k)] ∧ h2 = h ∧ m = r.length ∧ l = d ++ r ∧ k = d.length ∧ n = l.length ∧ d.any (fun s => !decide (s.size ≤ 100)) = false,
    ⟨l.length, rfl, [], l, _, _, rfl, rfl, rfl, rfl, rfl, by rw [← hcl], rfl⟩, ?_⟩
  rintro m xs lo h2 ⟨rfl, d, r, k, n, rfl, rfl, rfl, hd, rfl, rfl, hany⟩
  have hdl : l.length = d.length + r.length := by rw [hd, List.length_append]
  refine ⟨fun c6 => ?_, fun c6 => ?_⟩
  · replace c6 : (d.length : Int) < (l.length : Int) := of_decide_eq_true c6
    cases r with
    | nil => exact absurd hdl (by simp only [List.length_nil]; omega)
    | cons c r =>
    have hget : (l.map V.s)[d.length]? = some (V.s c) := by rw [hd]; exact map_get _ d c r
    simp only [List.length_cons] at hdl
    refine ⟨V.s c, ⟨by show (0:Int) ≤ (d.length : Int); omega, ?_⟩, ?_⟩
    · show (l.map V.s)[((d.length : Nat) : Int).toNat]? = _
      rw [Int.toNat_natCast]; exact hget
    refine (c_chk1 W0 c _).mono ?_
    rintro _ _ ⟨rfl, rfl⟩
    refine ⟨fun c3 => ?_, fun c3 => ?_⟩
    · replace c3 : (!decide (c.size ≤ 100)) = true := c3
      refine ⟨_, rfl, ?_, rfl⟩
      have e1 : decide ((0:Int) ≤ (d.length : Int)) = true := decide_eq_true (by omega)
      rw [e1, hd, List.any_append, List.any_cons, c3]; simp
    · replace c3 : (!decide (c.size ≤ 100)) = false := c3
      refine ⟨by show inI64 ((d.length : Int) + 1); unfold inI64; omega, ?_⟩
      refine ⟨r.length, by show r.length < r.length + 1; omega, rfl, d ++ [c], r, _, _, rfl, rfl, rfl, by rw [hd]; simp, by simp, rfl, ?_⟩
      rw [List.any_append, hany, List.any_cons, c3]; rfl
  · replace c6 : ¬ (d.length : Int) < (l.length : Int) := of_decide_eq_false c6
    cases r with
    | cons c r => exact absurd hdl (by simp only [List.length_cons]; omega)
    | nil =>
    refine ⟨_, rfl, ?_, rfl⟩
    rw [hd, List.append_nil, hany]; rfl
theorem c_has1 (l : List Str) (hl : l.length ≤ 2 ^ 45) (h : H) :
    ACalls Tryd.prog W0 16 [.v (.sl 1 (l.map V.s)), .v (.lit (.func (.func 17) #[] #[]))] h fun r h' => r = .v (V.b (l.any (fun s => !decide (s.size ≤ 100)))) ∧ h' = h := by
  refine ACalls.of (C := CO [] fun _ => ([], [], 0)) (cOkO _ _) hP (fn := Tryd.f16) (by kernel_rfl) (by kernel_rfl) ?_
  refine (c_idx1 W0 l hl _).mono ?_
  rintro _ _ ⟨n, rfl, hn, rfl⟩
  exact ⟨congrArg (fun x => A.v (V.b x)) hn, rfl⟩

theorem c_idx2 (hD : DecC W0) (l : List Mut) (hl : l.length ≤ 2 ^ 45) (hs : ∀ m ∈ l, m.sized) (h : H) :
    ACalls Tryd.prog W0 28 [.v (.sl 4 (l.map fun m => .agg m.v)), .v (.lit (.func (.func 19) #[] #[]))] h fun r h' => ∃ n : Int, r = .v (V.i n) ∧ decide (0 ≤ n) = l.any (fun m => !(isName m.table && checkPart m.part)) ∧ h' = h := by
  have hcl : (l.map fun m => V.agg m.v).length = l.length := List.length_map ..
  refine ACalls.of (C := CO [] fun _ => ([], [], 0)) (cOkO _ _) hP (fn := Tryd.f28) (by kernel_rfl) (by kernel_rfl) ?_
  refine ⟨0, [0, 1, 7, 8], 0, fun m xs lo h2 => lo = [] ∧ ∃ (d r : List Mut) (k n : Int), xs = [.v (.sl 4 (l.map fun m => .agg m.v)), .v (.lit (.func (.func 19) #[] #[])), .v (V.i n), .v (V.i k)] ∧ h2 = h ∧ m = r.length ∧ l = d ++ r ∧ k = d.length ∧ n = l.length ∧ d.any (fun m => !(isName m.table && checkPart m.part)) = false,
    ⟨l.length, rfl, [], l, _, _, rfl, rfl, rfl, rfl, rfl, by rw [← hcl], rfl⟩, ?_⟩
  rintro m xs lo h2 ⟨rfl, d, r, k, n, rfl, rfl, rfl, hd, rfl, rfl, hany⟩
  have hdl : l.length = d.length + r.length := by rw [hd, List.length_append]
  refine ⟨fun c6 => ?_, fun c6 => ?_⟩
  · replace c6 : (d.length : Int) < (l.length : Int) := of_decide_eq_true c6
    cases r with
    | nil => exact absurd hdl (by simp only [List.length_nil]; omega)
    | cons c r =>
    have hget : (l.map fun m => V.agg m.v)[d.length]? = some (.agg c.v) := by rw [hd]; exact map_get _ d c r
    simp only [List.length_cons] at hdl
    have hm : c ∈ l := by rw [hd]; simp
    refine ⟨.agg c.v, ⟨by show (0:Int) ≤ (d.length : Int); omega, ?_⟩, ?_⟩
    · show (l.map fun m => V.agg m.v)[((d.length : Nat) : Int).toNat]? = _
      rw [Int.toNat_natCast]; exact hget
    refine (c_chk2 W0 hD c (hs c hm) _).mono ?_
    rintro _ _ ⟨rfl, rfl⟩
    refine ⟨fun c3 => ?_, fun c3 => ?_⟩
    · replace c3 : (!(isName c.table && checkPart c.part)) = true := c3
      refine ⟨_, rfl, ?_, rfl⟩
      have e1 : decide ((0:Int) ≤ (d.length : Int)) = true := decide_eq_true (by omega)
      rw [e1, hd, List.any_append, List.any_cons, c3]; simp
    · replace c3 : (!(isName c.table && checkPart c.part)) = false := c3
      refine ⟨by show inI64 ((d.length : Int) + 1); unfold inI64; omega, ?_⟩
      refine ⟨r.length, by show r.length < r.length + 1; omega, rfl, d ++ [c], r, _, _, rfl, rfl, rfl, by rw [hd]; simp, by simp, rfl, ?_⟩
      rw [List.any_append, hany, List.any_cons, c3]; rfl
  · replace c6 : ¬ (d.length : Int) < (l.length : Int) := of_decide_eq_false c6
    cases r with
    | cons c r => exact absurd hdl (by simp only [List.length_cons]; omega)
    | nil =>
    refine ⟨_, rfl, ?_, rfl⟩
    rw [hd, List.append_nil, hany]; rfl
theorem c_has2 (hD : DecC W0) (l : List Mut) (hl : l.length ≤ 2 ^ 45) (hs : ∀ m ∈ l, m.sized) (h : H) :
    ACalls Tryd.prog W0 18 [.v (.sl 4 (l.map fun m => .agg m.v)), .v (.lit (.func (.func 19) #[] #[]))] h fun r h' => r = .v (V.b (l.any (fun m => !(isName m.table && checkPart m.part)))) ∧ h' = h := by
  refine ACalls.of (C := CO [] fun _ => ([], [], 0)) (cOkO _ _) hP (fn := Tryd.f18) (by kernel_rfl) (by kernel_rfl) ?_
  refine (c_idx2 W0 hD l hl hs _).mono ?_
  rintro _ _ ⟨n, rfl, hn, rfl⟩
  exact ⟨congrArg (fun x => A.v (V.b x)) hn, rfl⟩

theorem any_not {α : Type} (l : List α) (p : α → Bool) : l.any (fun x => !p x) = !l.all p := by
  induction l with
  | nil => rfl
  | cons a l ih => rw [List.any_cons, List.all_cons, ih]; cases p a <;> rfl

def Msg.sized (m : Msg) : Prop := ∀ x ∈ m.muts, x.sized
theorem c_checkMsg (hD : DecC W0) (m : Msg) (hm : m.sized) (h : H) : ACalls Tryd.prog W0 8 [.v (.agg m.v)] h fun r h' => r = .v (V.b (checkMsg m)) ∧ h' = h := by
  obtain ⟨kind, frm, to, id, muts, keys, num⟩ := m
  replace hm : ∀ x ∈ muts, x.sized := hm
  obtain ⟨b1, hb1⟩ : ∃ b1, b1 = keys.all (fun s => decide (s.size ≤ 100)) := ⟨_, rfl⟩
  obtain ⟨b2, hb2⟩ : ∃ b2, b2 = muts.all (fun x => isName x.table && checkPart x.part) := ⟨_, rfl⟩
  have hsp : checkMsg ⟨kind, frm, to, id, muts, keys, num⟩ = (decide (1 ≤ kind) && decide (kind ≤ 8) && inB frm 4 && inB to 4 && inB id 1099511627776 && inB num 1099511627776 && decide (muts.length ≤ 100) && decide (keys.length ≤ 40) && b1 && b2) := by rw [hb1, hb2]; rfl
  have hc1 : (muts.map fun x => V.agg x.v).length = muts.length := List.length_map ..
  have hc2 : (keys.map V.s).length = keys.length := List.length_map ..
  rw [hsp]
  refine ACalls.of (C := CO [] fun _ => ([], [], 0)) (cOkO _ _) hP (fn := Tryd.f8) (by kernel_rfl) (by kernel_rfl) ?_
  refine ⟨rfl, V.b (inB frm 4), fun hg => c_in W0 frm 4 _, ?_⟩
  refine ⟨rfl, V.b (inB to 4), fun hg => c_in W0 to 4 _, ?_⟩
  refine ⟨rfl, V.b (inB id 1099511627776), fun hg => c_in W0 id 1099511627776 _, ?_⟩
  refine ⟨rfl, V.b (inB num 1099511627776), fun hg => c_in W0 num 1099511627776 _, ?_⟩
  have conv : ∀ x : Bool, x = (bif (bif (bif (bif (bif (bif (bif decide (kind < 1) then true else decide (8 < kind)) then true else !inB frm 4) then true else !inB to 4) then true else !inB id 1099511627776) then true else !inB num 1099511627776) then true else decide ((100:Int) < ((muts.map fun x => V.agg x.v).length : Int))) then true else decide ((40:Int) < ((keys.map V.s).length : Int))) →
      x = !(decide (1 ≤ kind) && decide (kind ≤ 8) && inB frm 4 && inB to 4 && inB id 1099511627776 && inB num 1099511627776 && decide (muts.length ≤ 100) && decide (keys.length ≤ 40)) := by
    rintro x rfl
    have e1 : decide (kind < 1) = !decide (1 ≤ kind) := by
      by_cases hh : 1 ≤ kind
      · rw [decide_eq_true hh, decide_eq_false (by omega)]; rfl
      · rw [decide_eq_false hh, decide_eq_true (by omega)]; rfl
    have e2 : decide (8 < kind) = !decide (kind ≤ 8) := by
      by_cases hh : kind ≤ 8
      · rw [decide_eq_true hh, decide_eq_false (by omega)]; rfl
      · rw [decide_eq_false hh, decide_eq_true (by omega)]; rfl
    rw [hc1, hc2, dec_lt muts.length 100 100 rfl, dec_lt keys.length 40 40 rfl, e1, e2]
    cases decide (1 ≤ kind) <;> cases decide (kind ≤ 8) <;> cases inB frm 4 <;> cases inB to 4 <;> cases inB id 1099511627776 <;> cases inB num 1099511627776 <;> cases decide (muts.length ≤ 100) <;> cases decide (keys.length ≤ 40) <;> rfl
  refine ⟨fun c5 => ?_, fun c5 => ?_⟩
  · replace c5 := not_t ((conv _ rfl).symm.trans c5)
    rw [c5]
    exact ⟨rfl, rfl⟩
  replace c5 := not_f ((conv _ rfl).symm.trans c5)
  have c6 := c5
  simp only [Bool.and_eq_true, decide_eq_true_eq] at c6
  have hml : muts.length ≤ 100 := c6.1.2
  have hkl : keys.length ≤ 40 := c6.2
  have h2 := c_has2 W0 hD muts (by omega) hm
  rw [any_not, ← hb2] at h2
  rw [c5]
  refine (c_has1 W0 keys (by omega) _).mono ?_
  rintro _ _ ⟨rfl, rfl⟩
  refine ⟨rfl, V.b (!b2), fun hg => h2 _, ?_⟩
  refine ⟨congrArg (fun x => A.v (V.b x)) ?_, rfl⟩
  show (bif !keys.any (fun s => !decide (s.size ≤ 100)) then !!b2 else false) = (true && b1 && b2)
  rw [any_not, ← hb1]
  cases b1 <;> cases b2 <;> rfl
end Go.AI

namespace Go.AI
open Go.Proofs Go
variable (W0 : World)
set_option maxRecDepth 20000
set_option maxHeartbeats 1000000

theorem c_wtext (b : List UInt8) (s : Str) (hb : (b ++ encText s).length ≤ 2 ^ 45) (h : H) :
    ACalls Tryd.prog W0 78 [.v (.sl 1 (V.bytes b)), .v (V.s s)] h fun r h' => r = .own 1 (V.bytes (b ++ encText s)) ∧ h' = h := by
  have hl : b.length + (nby s.size + 1) + s.size ≤ 2 ^ 45 := by
    have := str_len s
    simp only [encText, List.length_append, numB_length, this] at hb
    omega
  have hs : (V.bytes (b ++ numB s.size)).length = b.length + (nby s.size + 1) := by simp [bytes_length, numB_length]
  have hd : (V.bytes s.data.toList).length = s.size := by rw [bytes_length, str_len]
  refine ACalls.of (C := CO [] fun _ => ([], [], 0)) (cOkO _ _) hP (fn := Tryd.f78) (by kernel_rfl) (by kernel_rfl) ?_
  refine ⟨(s.size : Int), wrapU64 (by omega) (by omega), ?_⟩
  refine (c_Num W0 b s.size (by omega) (by omega) _).mono ?_
  rintro _ _ ⟨rfl, rfl⟩
  refine ⟨?_, V.bytes (b ++ encText s), ?_, ?_⟩
  · show ((V.bytes (b ++ numB s.size)).length + (V.bytes s.data.toList).length) * 1 ≤ 70368744177664
    rw [hs, hd]; omega
  · show V.bytes (b ++ numB s.size) ++ V.bytes s.data.toList = _
    rw [bytes_append, encText, List.append_assoc]
  exact ⟨rfl, rfl⟩

/-- A message's cells. -/
def MC (k f t i : Int) (M L : A) (n : Int) : HO := .cells [.v (V.i k), .v (V.i f), .v (V.i t), .v (V.i i), M, L, .v (V.i n)]

theorem c_nput (k f t i n : Int) (M L : A) (j : Nat) (v : Int) (hj : (j = 0 ∧ v = k) ∨ (j = 1 ∧ v = f) ∨ (j = 2 ∧ v = t) ∨ (j = 3 ∧ v = i) ∨ (j = 6 ∧ v = n)) (hv : natB v) (b : List UInt8) (hb : b.length ≤ 2 ^ 45) (x : Nat) {h : H} (hx : h x = some (MC k f t i M L n)) :
    ACalls Tryd.prog W0 66 [.v (.agg [.ptr x j]), .v (.sl 1 (V.bytes b))] h fun r h' => r = .own 1 (V.bytes (b ++ numB v.toNat)) ∧ h' = h := by
  obtain ⟨h0, h1⟩ := hv
  rcases hj with ⟨rfl, rfl⟩ | ⟨rfl, rfl⟩ | ⟨rfl, rfl⟩ | ⟨rfl, rfl⟩ | ⟨rfl, rfl⟩
  all_goals
    refine ACalls.of (C := CO [] fun _ => ([], [], 0)) (cOkO _ _) hP (fn := Tryd.f66) (by kernel_rfl) (by kernel_rfl) ?_
    refine ⟨_, ⟨hx, trivial⟩, ?_⟩
    refine ⟨(v.toNat : Int), by show IntKind.u64.wrap v = _; rw [wrapU64 h0 (by omega)]; omega, ?_⟩
    refine (c_Num W0 b v.toNat (by omega) hb _).mono ?_
    rintro _ _ ⟨rfl, rfl⟩
    exact ⟨rfl, rfl⟩

theorem c_mput (hD : DecC W0) (k f t i n : Int) (L : A) (muts : List Mut) (hs : ∀ m ∈ muts, m.sized) (hc : ∀ m ∈ muts, isName m.table = true ∧ checkPart m.part = true) (hl : muts.length ≤ 2 ^ 45) (b : List UInt8) (hb : (b ++ (numB muts.length ++ muts.flatMap encMut)).length ≤ 2 ^ 45) (x : Nat) {h : H} (hx : h x = some (MC k f t i (.v (.sl 4 (muts.map fun m => .agg m.v))) L n)) :
    ACalls Tryd.prog W0 74 [.v (.agg [.ptr x 4]), .v (.sl 1 (V.bytes b))] h fun r h' => r = .own 1 (V.bytes (b ++ (numB muts.length ++ muts.flatMap encMut))) ∧ h' = h := by
  have hcl : (muts.map fun m => V.agg m.v).length = muts.length := List.length_map ..
  have hlen := hb
  simp only [List.length_append] at hlen
  refine ACalls.of (C := CO [40] fun i => match i with | 6 => ([0, 1, 2, 4, 5, 3, 6, 7], [], 1) | _ => ([], [], 0)) (cOkO _ _) hP (fn := Tryd.f74) (by kernel_rfl) (by kernel_rfl) ?_
  refine ⟨_, ⟨hx, trivial⟩, ?_⟩
  refine ⟨(muts.length : Int), by show IntKind.u64.wrap ((muts.map fun m => V.agg m.v).length : Int) = _; rw [hcl]; exact wrapU64 (by omega) (by omega), ?_⟩
  refine (c_Num W0 b muts.length (by omega) (by omega) _).mono ?_
  rintro _ h ⟨rfl, rfl⟩
  refine ⟨_, ⟨hx, trivial⟩, ?_⟩
  refine ⟨0, [1, 20, 21, 22], 0, fun m xs l h2 => l = [] ∧ ∃ (d r : List Mut) (acc : List UInt8) (k2 n2 : Int), xs = [.own 1 (V.bytes acc), .v (.sl 4 (muts.map fun m => .agg m.v)), .v (V.i n2), .v (V.i k2)] ∧ h2 = h ∧ m = r.length ∧ muts = d ++ r ∧ k2 = d.length ∧ n2 = muts.length ∧
      acc ++ r.flatMap encMut = b ++ (numB muts.length ++ muts.flatMap encMut),
    ⟨muts.length, rfl, [], muts, _, _, _, rfl, rfl, rfl, rfl, rfl, by rw [← hcl], by rw [List.append_assoc]⟩, ?_⟩
  rintro m xs l h2 ⟨rfl, d, r, acc, k2, n2, rfl, rfl, rfl, hd, rfl, rfl, hacc⟩
  have hdl : muts.length = d.length + r.length := by rw [hd, List.length_append]
  refine ⟨fun c6 => ?_, fun c6 => ?_⟩
  · replace c6 : (d.length : Int) < (muts.length : Int) := of_decide_eq_true c6
    cases r with
    | nil => exact absurd hdl (by simp only [List.length_nil]; omega)
    | cons c r =>
    have hget : (muts.map fun m => V.agg m.v)[d.length]? = some (.agg c.v) := by rw [hd]; exact map_get _ d c r
    have hlt := congrArg List.length hacc
    simp only [List.length_append, List.flatMap_cons] at hlt hdl
    simp only [List.length_cons] at hdl
    have hm : c ∈ muts := by rw [hd]; simp
    have hcc := hc c hm
    have hpl := encPart_le hcc.2
    have hpp : putPart c.part = (encPart c.part, 0) := by unfold putPart; rw [if_pos hcc.2, if_neg (by omega)]
    have cp := c_Part W0 hD c.part (hs c hm).2 (fun _ => by omega)
    rw [hpp] at cp
    have hce : (encMut c).length = (encText c.table).length + (encText ⟨(encPart c.part).toArray⟩).length := by simp [encMut]
    refine ⟨.agg c.v, ⟨by show (0:Int) ≤ (d.length : Int); omega, ?_⟩, ?_⟩
    · show (muts.map fun m => V.agg m.v)[((d.length : Nat) : Int).toNat]? = _
      rw [Int.toNat_natCast]; exact hget
    refine (cp _).mono ?_
    rintro _ _ ⟨rfl, rfl⟩
    refine ⟨[], fun _ => false, ?_⟩
    refine ⟨encPart c.part, rfl, ?_⟩
    refine (c_wtext W0 acc c.table (by simp only [List.length_append]; omega) _).mono ?_
    rintro _ _ ⟨rfl, rfl⟩
    refine (c_wtext W0 (acc ++ encText c.table) ⟨(encPart c.part).toArray⟩ (by simp only [List.length_append]; omega) _).mono ?_
    rintro _ _ ⟨rfl, rfl⟩
    refine ⟨by show inI64 ((d.length : Int) + 1); unfold inI64; omega, ?_⟩
    refine ⟨r.length, by show r.length < r.length + 1; omega, rfl, d ++ [c], r, _, _, _, rfl, rfl, rfl, by rw [hd]; simp, by simp, rfl, ?_⟩
    rw [← hacc]; simp [encMut]
  · replace c6 : ¬ (d.length : Int) < (muts.length : Int) := of_decide_eq_false c6
    cases r with
    | cons c r => exact absurd hdl (by simp only [List.length_cons]; omega)
    | nil =>
    refine ⟨?_, rfl⟩
    rw [← hacc]; simp only [List.flatMap_nil, List.append_nil]; rfl

theorem c_tput (k f t i n : Int) (M : A) (keys : List Str) (hl : keys.length ≤ 2 ^ 45) (b : List UInt8) (hb : (b ++ (numB keys.length ++ keys.flatMap encText)).length ≤ 2 ^ 45) (x : Nat) {h : H} (hx : h x = some (MC k f t i M (.v (.sl 1 (keys.map V.s))) n)) :
    ACalls Tryd.prog W0 101 [.v (.agg [.ptr x 5]), .v (.sl 1 (V.bytes b))] h fun r h' => r = .own 1 (V.bytes (b ++ (numB keys.length ++ keys.flatMap encText))) ∧ h' = h := by
  have hcl : (keys.map V.s).length = keys.length := List.length_map ..
  have hlen := hb
  simp only [List.length_append] at hlen
  refine ACalls.of (C := CO [28] fun _ => ([], [], 0)) (cOkO _ _) hP (fn := Tryd.f101) (by kernel_rfl) (by kernel_rfl) ?_
  refine ⟨_, ⟨hx, trivial⟩, ?_⟩
  refine ⟨(keys.length : Int), by show IntKind.u64.wrap ((keys.map V.s).length : Int) = _; rw [hcl]; exact wrapU64 (by omega) (by omega), ?_⟩
  refine (c_Num W0 b keys.length (by omega) (by omega) _).mono ?_
  rintro _ h ⟨rfl, rfl⟩
  refine ⟨_, ⟨hx, trivial⟩, ?_⟩
  refine ⟨0, [1, 18, 19, 20], 0, fun m xs l h2 => l = [] ∧ ∃ (d r : List Str) (acc : List UInt8) (k2 n2 : Int), xs = [.own 1 (V.bytes acc), .v (.sl 1 (keys.map V.s)), .v (V.i n2), .v (V.i k2)] ∧ h2 = h ∧ m = r.length ∧ keys = d ++ r ∧ k2 = d.length ∧ n2 = keys.length ∧
      acc ++ r.flatMap encText = b ++ (numB keys.length ++ keys.flatMap encText),
    ⟨keys.length, rfl, [], keys, _, _, _, rfl, rfl, rfl, rfl, rfl, by rw [← hcl], by rw [List.append_assoc]⟩, ?_⟩
  rintro m xs l h2 ⟨rfl, d, r, acc, k2, n2, rfl, rfl, rfl, hd, rfl, rfl, hacc⟩
  have hdl : keys.length = d.length + r.length := by rw [hd, List.length_append]
  refine ⟨fun c6 => ?_, fun c6 => ?_⟩
  · replace c6 : (d.length : Int) < (keys.length : Int) := of_decide_eq_true c6
    cases r with
    | nil => exact absurd hdl (by simp only [List.length_nil]; omega)
    | cons c r =>
    have hget : (keys.map V.s)[d.length]? = some (V.s c) := by rw [hd]; exact map_get _ d c r
    have hlt := congrArg List.length hacc
    simp only [List.length_append, List.flatMap_cons] at hlt hdl
    simp only [List.length_cons] at hdl
    refine ⟨V.s c, ⟨by show (0:Int) ≤ (d.length : Int); omega, ?_⟩, ?_⟩
    · show (keys.map V.s)[((d.length : Nat) : Int).toNat]? = _
      rw [Int.toNat_natCast]; exact hget
    refine (c_wtext W0 acc c (by simp only [List.length_append]; omega) _).mono ?_
    rintro _ _ ⟨rfl, rfl⟩
    refine ⟨by show inI64 ((d.length : Int) + 1); unfold inI64; omega, ?_⟩
    refine ⟨r.length, by show r.length < r.length + 1; omega, rfl, d ++ [c], r, _, _, _, rfl, rfl, rfl, by rw [hd]; simp, by simp, rfl, ?_⟩
    rw [← hacc]; simp
  · replace c6 : ¬ (d.length : Int) < (keys.length : Int) := of_decide_eq_false c6
    cases r with
    | cons c r => exact absurd hdl (by simp only [List.length_cons]; omega)
    | nil =>
    refine ⟨?_, rfl⟩
    rw [← hacc]; simp only [List.flatMap_nil, List.append_nil]; rfl

def piecesV (x : Nat) : List V := [.ifc 71 (.agg [.ptr x 0]), .ifc 71 (.agg [.ptr x 1]), .ifc 71 (.agg [.ptr x 2]), .ifc 71 (.agg [.ptr x 3]), .ifc 71 (.agg [.ptr x 6]), .ifc 74 (.agg [.ptr x 4]), .ifc 77 (.agg [.ptr x 5])]
theorem c_pieces (x : Nat) (h : H) : ACalls Tryd.prog W0 14 [.v (.ptr x 0)] h fun r h' => r = .own 1 (piecesV x) ∧ h' = h := by
  refine ACalls.of (C := CO [] fun i => match i with | 1 => ([0, 1, 2, 3, 4, 5, 6, 7, 8, 9, 10, 11, 12, 13, 14, 15, 16, 17, 18, 19, 20, 21, 22, 23, 24, 25, 26, 27, 28, 29, 30, 31, 32, 33, 34, 35, 36], [], 0) | _ => ([], [], 0)) (cOkO _ _) hP (fn := Tryd.f14) (by kernel_rfl) (by kernel_rfl) ?_
  exact ⟨rfl, rfl⟩
end Go.AI

namespace Go.AI
open Go.Proofs Go
variable (W0 : World)
set_option maxRecDepth 20000
set_option maxHeartbeats 2000000

theorem c_Put (hD : DecC W0) (m : Msg) (hm : m.sized) (h : H) : ACalls Tryd.prog W0 7 [.v (.agg m.v)] h fun r h' => r = .v (.tup [V.s (putMsg m).1, V.i (putMsg m).2]) ∧ h' = h := by
  have cc := c_checkMsg W0 hD m hm
  have kk : ∀ q : Str × Int, putMsg m = q → A.v (.tup [V.s q.1, V.i q.2]) = A.v (.tup [V.s (putMsg m).1, V.i (putMsg m).2]) := by rintro q rfl; rfl
  obtain ⟨kind, frm, to, id, muts, keys, num⟩ := m
  replace hm : ∀ x ∈ muts, x.sized := hm
  refine ACalls.forget (Q := fun r h' => r = .v (.tup [V.s (putMsg ⟨kind, frm, to, id, muts, keys, num⟩).1, V.i (putMsg ⟨kind, frm, to, id, muts, keys, num⟩).2]) ∧ H.le h h') ?_ (by rintro a h' ⟨rfl, hle⟩; exact ⟨h, hle, rfl, rfl⟩)
  refine ACalls.of (C := CO [] fun _ => ([], [], 0)) (cOkO _ _) hP (fn := Tryd.f7) (by kernel_rfl) (by kernel_rfl) ?_
  refine (cc _).mono ?_
  rintro _ h ⟨rfl, rfl⟩
  refine ⟨fun c1 => ?_, fun c1 => ?_⟩
  · replace c1 := not_t c1
    exact ⟨kk (⟨#[]⟩, 1) (by unfold putMsg; rw [if_neg (by rw [c1]; exact Bool.false_ne_true)]), H.le_refl _⟩
  replace c1 := not_f c1
  have hlen := encMsg_le c1
  have hmsg : encMsg ⟨kind, frm, to, id, muts, keys, num⟩ = [] ++ numB kind.toNat ++ numB frm.toNat ++ numB to.toNat ++ numB id.toNat ++ numB num.toNat ++ (numB muts.length ++ muts.flatMap encMut) ++ (numB keys.length ++ keys.flatMap encText) := by simp [encMsg]
  have c2 := c1
  simp only [checkMsg, Bool.and_eq_true, decide_eq_true_eq, List.all_eq_true] at c2
  obtain ⟨⟨⟨⟨⟨⟨⟨⟨⟨h1, h2⟩, h3⟩, h4⟩, h5⟩, h6⟩, h7⟩, h8⟩, h9⟩, h10⟩ := c2
  have inn : ∀ {v k : Int}, inB v k = true → k ≤ 1099511627776 → natB v := by
    intro v k h hk
    have : 0 ≤ v ∧ v ≤ k := by simpa [inB] using h
    exact ⟨this.1, by omega⟩
  have b1 : natB kind := ⟨by omega, by omega⟩
  have b2 := inn h3 (by decide)
  have b3 := inn h4 (by decide)
  have b4 := inn h5 (by decide)
  have b5 := inn h6 (by decide)
  have hl := hlen
  rw [hmsg] at hl
  simp only [List.length_append, List.length_nil] at hl
  intro x hx
  refine (c_pieces W0 x _).mono ?_
  rintro _ _ ⟨rfl, rfl⟩
  have gx : (h.upd x (MC kind frm to id (.v (.sl 4 (muts.map fun x => .agg x.v))) (.v (.sl 1 (keys.map V.s))) num)) x = some (MC kind frm to id (.v (.sl 4 (muts.map fun x => .agg x.v))) (.v (.sl 1 (keys.map V.s))) num) := H.upd_get _ _ _
  obtain ⟨parts, hparts⟩ : ∃ parts : List (List UInt8), parts = [numB kind.toNat, numB frm.toNat, numB to.toNat, numB id.toNat, numB num.toNat, numB muts.length ++ muts.flatMap encMut, numB keys.length ++ keys.flatMap encText] := ⟨_, rfl⟩
  have hfl : ∀ k, (parts.take (k + 1)).flatten = (parts.take k).flatten ++ (parts[k]?.getD []) := by
    intro k; rw [List.take_add_one]; cases parts[k]? <;> simp
  have hall : (parts.take 7).flatten = encMsg ⟨kind, frm, to, id, muts, keys, num⟩ := by rw [hparts, hmsg]; simp
  have hle : ∀ k, (parts.take k).flatten.length ≤ 2 ^ 31 := by
    intro k
    have h1 : parts.flatten.length = ((parts.take k).flatten ++ (parts.drop k).flatten).length := by rw [← List.flatten_append, List.take_append_drop]
    have h2 : parts.flatten = encMsg ⟨kind, frm, to, id, muts, keys, num⟩ := by rw [hparts, hmsg]; simp
    rw [h2, List.length_append] at h1
    omega
  refine ⟨0, [4, 10, 11, 12], 0, fun mm xs l h2 => ∃ (k : Nat) (n : Int) (S : List V), xs = [.own 1 S, .own 1 (piecesV x), .v (V.i 7), .v (V.i n)] ∧ l = [] ∧ h2 = h.upd x (MC kind frm to id (.v (.sl 4 (muts.map fun x => .agg x.v))) (.v (.sl 1 (keys.map V.s))) num) ∧ mm + k = 7 ∧ n = k ∧ S = V.bytes (parts.take k).flatten,
    ⟨7, 0, _, _, rfl, rfl, rfl, rfl, rfl, rfl⟩, ?_⟩
  rintro mm xs l h2 ⟨k, n, S, rfl, rfl, rfl, hk, rfl, rfl⟩
  replace hk : (mm : Nat) + k = 7 := hk
  have step : ∀ (j : Nat), j + 1 ≤ 7 → (∃ m', m' < (7 - j : Nat) ∧ ∃ (k : Nat) (n : Int) (S : List V), [A.own 1 (V.bytes ((parts.take j).flatten ++ (parts[j]?.getD []))), .own 1 (piecesV x), .v (V.i 7), .v (V.i ((j : Int) + 1))] = [.own 1 S, .own 1 (piecesV x), .v (V.i 7), .v (V.i n)] ∧ ([] : List LO) = [] ∧ h.upd x (MC kind frm to id (.v (.sl 4 (muts.map fun x => .agg x.v))) (.v (.sl 1 (keys.map V.s))) num) = h.upd x (MC kind frm to id (.v (.sl 4 (muts.map fun x => .agg x.v))) (.v (.sl 1 (keys.map V.s))) num) ∧ m' + k = 7 ∧ n = k ∧ S = V.bytes (parts.take k).flatten) := by
    intro j hj
    exact ⟨7 - (j + 1), by omega, j + 1, _, _, rfl, rfl, rfl, by omega, by omega, by rw [hfl j]⟩
  rcases Nat.eq_or_lt_of_le (show 0 ≤ k by omega) with rfl | hk0
  · obtain rfl : mm = 7 := by omega
    refine ⟨fun _ => ?_, fun c => (nomatch (show true = false from c))⟩
    refine ⟨.ifc 71 (.agg [.ptr x 0]), ⟨by decide, rfl⟩, ?_⟩
    refine (c_nput W0 kind frm to id num _ _ 0 kind (.inl ⟨rfl, rfl⟩) b1 _ (by have := hle 0; omega) x gx).mono ?_
    rintro _ _ ⟨rfl, rfl⟩
    refine ⟨by show inI64 _; unfold inI64; decide, ?_⟩
    have e := step 0 (by decide)
    rw [show (parts[0]?.getD []) = numB kind.toNat from by rw [hparts]; rfl] at e
    exact e
  rcases Nat.eq_or_lt_of_le (show 1 ≤ k by omega) with rfl | hk1
  · obtain rfl : mm = 6 := by omega
    refine ⟨fun _ => ?_, fun c => (nomatch (show true = false from c))⟩
    refine ⟨.ifc 71 (.agg [.ptr x 1]), ⟨by decide, rfl⟩, ?_⟩
    refine (c_nput W0 kind frm to id num _ _ 1 frm (.inr (.inl ⟨rfl, rfl⟩)) b2 _ (by have := hle 1; omega) x gx).mono ?_
    rintro _ _ ⟨rfl, rfl⟩
    refine ⟨by show inI64 _; unfold inI64; decide, ?_⟩
    have e := step 1 (by decide)
    rw [show (parts[1]?.getD []) = numB frm.toNat from by rw [hparts]; rfl] at e
    exact e
  rcases Nat.eq_or_lt_of_le (show 2 ≤ k by omega) with rfl | hk2
  · obtain rfl : mm = 5 := by omega
    refine ⟨fun _ => ?_, fun c => (nomatch (show true = false from c))⟩
    refine ⟨.ifc 71 (.agg [.ptr x 2]), ⟨by decide, rfl⟩, ?_⟩
    refine (c_nput W0 kind frm to id num _ _ 2 to (.inr (.inr (.inl ⟨rfl, rfl⟩))) b3 _ (by have := hle 2; omega) x gx).mono ?_
    rintro _ _ ⟨rfl, rfl⟩
    refine ⟨by show inI64 _; unfold inI64; decide, ?_⟩
    have e := step 2 (by decide)
    rw [show (parts[2]?.getD []) = numB to.toNat from by rw [hparts]; rfl] at e
    exact e
  rcases Nat.eq_or_lt_of_le (show 3 ≤ k by omega) with rfl | hk3
  · obtain rfl : mm = 4 := by omega
    refine ⟨fun _ => ?_, fun c => (nomatch (show true = false from c))⟩
    refine ⟨.ifc 71 (.agg [.ptr x 3]), ⟨by decide, rfl⟩, ?_⟩
    refine (c_nput W0 kind frm to id num _ _ 3 id (.inr (.inr (.inr (.inl ⟨rfl, rfl⟩)))) b4 _ (by have := hle 3; omega) x gx).mono ?_
    rintro _ _ ⟨rfl, rfl⟩
    refine ⟨by show inI64 _; unfold inI64; decide, ?_⟩
    have e := step 3 (by decide)
    rw [show (parts[3]?.getD []) = numB id.toNat from by rw [hparts]; rfl] at e
    exact e
  rcases Nat.eq_or_lt_of_le (show 4 ≤ k by omega) with rfl | hk4
  · obtain rfl : mm = 3 := by omega
    refine ⟨fun _ => ?_, fun c => (nomatch (show true = false from c))⟩
    refine ⟨.ifc 71 (.agg [.ptr x 6]), ⟨by decide, rfl⟩, ?_⟩
    refine (c_nput W0 kind frm to id num _ _ 6 num (.inr (.inr (.inr (.inr ⟨rfl, rfl⟩)))) b5 _ (by have := hle 4; omega) x gx).mono ?_
    rintro _ _ ⟨rfl, rfl⟩
    refine ⟨by show inI64 _; unfold inI64; decide, ?_⟩
    have e := step 4 (by decide)
    rw [show (parts[4]?.getD []) = numB num.toNat from by rw [hparts]; rfl] at e
    exact e
  rcases Nat.eq_or_lt_of_le (show 5 ≤ k by omega) with rfl | hk5
  · obtain rfl : mm = 2 := by omega
    refine ⟨fun _ => ?_, fun c => (nomatch (show true = false from c))⟩
    refine ⟨.ifc 74 (.agg [.ptr x 4]), ⟨by decide, rfl⟩, ?_⟩
    refine (c_mput W0 hD kind frm to id num _ muts hm h10 (by omega) _ (by have := hle 5; simp only [List.length_append]; omega) x gx).mono ?_
    rintro _ _ ⟨rfl, rfl⟩
    refine ⟨by show inI64 _; unfold inI64; decide, ?_⟩
    have e := step 5 (by decide)
    rw [show (parts[5]?.getD []) = numB muts.length ++ muts.flatMap encMut from by rw [hparts]; rfl] at e
    exact e
  rcases Nat.eq_or_lt_of_le (show 6 ≤ k by omega) with rfl | hk6
  · obtain rfl : mm = 1 := by omega
    refine ⟨fun _ => ?_, fun c => (nomatch (show true = false from c))⟩
    refine ⟨.ifc 77 (.agg [.ptr x 5]), ⟨by decide, rfl⟩, ?_⟩
    refine (c_tput W0 kind frm to id num _ keys (by omega) _ (by have := hle 6; simp only [List.length_append]; omega) x gx).mono ?_
    rintro _ _ ⟨rfl, rfl⟩
    refine ⟨by show inI64 _; unfold inI64; decide, ?_⟩
    have e := step 6 (by decide)
    rw [show (parts[6]?.getD []) = numB keys.length ++ keys.flatMap encText from by rw [hparts]; rfl] at e
    exact e
  obtain rfl : k = 7 := by omega
  refine ⟨fun c => (nomatch (show false = true from c)), fun _ => ?_⟩
  rw [hall]
  have hbl := bytes_length (encMsg ⟨kind, frm, to, id, muts, keys, num⟩)
  refine ⟨fun c7 => ?_, fun c7 => ?_⟩
  · replace c7 : 4096 < (encMsg ⟨kind, frm, to, id, muts, keys, num⟩).length := by
      have : (4096 : Int) < ((V.bytes (encMsg ⟨kind, frm, to, id, muts, keys, num⟩)).length : Int) := of_decide_eq_true c7
      omega
    exact ⟨kk (⟨#[]⟩, 2) (by unfold putMsg; rw [if_pos c1, if_pos c7]), H.le_upd hx⟩
  · replace c7 : ¬ 4096 < (encMsg ⟨kind, frm, to, id, muts, keys, num⟩).length := by
      have : ¬ (4096 : Int) < ((V.bytes (encMsg ⟨kind, frm, to, id, muts, keys, num⟩)).length : Int) := of_decide_eq_false c7
      omega
    refine ⟨_, rfl, ?_⟩
    exact ⟨kk (⟨(encMsg ⟨kind, frm, to, id, muts, keys, num⟩).toArray⟩, 0) (by unfold putMsg; rw [if_pos c1, if_neg c7]), H.le_upd hx⟩
end Go.AI

namespace Go.AI
open Go.Proofs Go
variable (W0 : World)
set_option maxRecDepth 20000
set_option maxHeartbeats 1000000

theorem c_wfail (b : List UInt8) (s : RS) (k x : Nat) {h : H} (hx : h x = some (RD b s)) :
    ACalls Tryd.prog W0 23 [.v (.ptr x 0), .v (V.i k)] h fun r h' => r = .v (.tup []) ∧ h' = h.upd x (RD b (s.fail k)) := by
  refine ACalls.of (C := CO [] fun _ => ([], [], 0)) (cOkO _ _) hP (fn := Tryd.f23) (by kernel_rfl) (by kernel_rfl) ?_
  refine ⟨_, ⟨hx, trivial⟩, ?_⟩
  refine ⟨fun c1 => ?_, fun c1 => ?_⟩
  · replace c1 : s.e = 0 := by
      have : ((s.e : Int) == 0) = true := c1
      simpa using this
    refine ⟨rfl, _, hx, ?_⟩
    refine ⟨rfl, ?_⟩
    rw [RS.fail_pos c1]; rfl
  · replace c1 : ¬ s.e = 0 := by
      have : ((s.e : Int) == 0) = false := c1
      simpa using this
    refine ⟨rfl, ?_⟩
    rw [RS.fail_neg c1, H.upd_self hx]; rfl


/-- The next number, up to one. -/
def wAny (b : List UInt8) (s : RS) (most wrong : Nat) : Nat × RS :=
  if s.e = 0 then (if (getNum b s.p).2.2 = 0 then (if most < (getNum b s.p).1 then (0, ⟨(getNum b s.p).2.1, wrong⟩) else ((getNum b s.p).1, ⟨(getNum b s.p).2.1, 0⟩)) else (0, ⟨s.p, (getNum b s.p).2.2⟩)) else (0, s)

theorem c_wany (b : List UInt8) (s : RS) (most wrong x : Nat) (hm : most < 2 ^ 63) (hb : b.length ≤ 2 ^ 45) (hs : s.ok b) {h : H} (hx : h x = some (RD b s)) :
    ACalls Tryd.prog W0 69 [.v (.ptr x 0), .v (.lit (.int .u64 most)), .v (V.i wrong)] h fun r h' => r = .v (V.i (wAny b s most wrong).1) ∧ h' = h.upd x (RD b (wAny b s most wrong).2) := by
  have hp := hs.1
  have kk : ∀ q : Nat × RS, wAny b s most wrong = q → A.v (V.i q.1) = A.v (V.i (wAny b s most wrong).1) ∧ h.upd x (RD b q.2) = h.upd x (RD b (wAny b s most wrong).2) := by rintro q rfl; exact ⟨rfl, rfl⟩
  refine ACalls.of (C := CO [] fun i => match i with | 3 => ([0, 1, 2, 3, 4, 5, 6, 7, 8, 9, 10, 11, 12, 13, 14, 15], [], 1) | _ => ([], [], 0)) (cOkO _ _) hP (fn := Tryd.f69) (by kernel_rfl) (by kernel_rfl) ?_
  refine ⟨_, ⟨hx, trivial⟩, ?_⟩
  refine ⟨fun c1 => ?_, fun c1 => ?_⟩
  · replace c1 : ¬ s.e = 0 := by
      have : ((s.e : Int) != 0) = true := c1
      simpa using this
    have e := kk (0, s) (by unfold wAny; rw [if_neg c1])
    exact ⟨e.1, (H.upd_self hx).symm.trans e.2⟩
  replace c1 : s.e = 0 := by
    have : ((s.e : Int) != 0) = false := c1
    simpa using this
  refine ⟨[], fun y => Nat.beq y x, ?_⟩
  refine ⟨_, ⟨hx, Nat.beq_refl x⟩, ?_⟩
  refine ⟨_, ⟨hx, Nat.beq_refl x⟩, ?_⟩
  refine (c_GetNum W0 b s.p (by omega) hb _).mono ?_
  rintro _ _ ⟨rfl, rfl⟩
  rw [H.back_hide]
  refine ⟨fun c3 => ?_, fun c3 => ?_⟩
  · replace c3 : ¬ (getNum b s.p).2.2 = 0 := by
      have : (((getNum b s.p).2.2 : Int) != 0) = true := c3
      simpa using this
    refine (c_wfail W0 b s (getNum b s.p).2.2 x hx).mono ?_
    rintro _ _ ⟨rfl, rfl⟩
    have e := kk (0, ⟨s.p, (getNum b s.p).2.2⟩) (by unfold wAny; rw [if_pos c1, if_neg c3])
    refine ⟨e.1, ?_⟩
    rw [RS.fail_pos c1]; exact e.2
  replace c3 : (getNum b s.p).2.2 = 0 := by
    have : (((getNum b s.p).2.2 : Int) != 0) = false := c3
    simpa using this
  refine ⟨rfl, _, hx, ?_⟩
  have hst : h.upd x (.cells [.v (.sl 1 (V.bytes b)), .v (V.i (getNum b s.p).2.1), .v (V.i (s.e : Int))]) = h.upd x (RD b ⟨(getNum b s.p).2.1, 0⟩) := by rw [c1]; rfl
  refine ⟨fun c4 => ?_, fun c4 => ?_⟩
  · replace c4 : most < (getNum b s.p).1 := by
      have : (most : Int) < ((getNum b s.p).1 : Int) := of_decide_eq_true c4
      omega
    refine (c_wfail W0 b ⟨(getNum b s.p).2.1, 0⟩ wrong x (h := h.upd x (.cells [.v (.sl 1 (V.bytes b)), .v (V.i (getNum b s.p).2.1), .v (V.i (s.e : Int))])) (by rw [hst]; exact H.upd_get _ _ _)).mono ?_
    rintro _ _ ⟨rfl, rfl⟩
    have e := kk (0, ⟨(getNum b s.p).2.1, wrong⟩) (by unfold wAny; rw [if_pos c1, if_pos c3, if_pos c4])
    exact ⟨e.1, (H.upd_upd _ _ _ _).trans e.2⟩
  · replace c4 : ¬ most < (getNum b s.p).1 := by
      have : ¬ (most : Int) < ((getNum b s.p).1 : Int) := of_decide_eq_false c4
      omega
    refine ⟨((getNum b s.p).1 : Int), wrapI64 (by omega) (by omega), ?_⟩
    have e := kk ((getNum b s.p).1, ⟨(getNum b s.p).2.1, 0⟩) (by unfold wAny; rw [if_pos c1, if_pos c3, if_neg c4])
    exact ⟨e.1, hst.trans e.2⟩

theorem wAny_num (b : List UInt8) (s : RS) : wAny b s 1099511627776 6 = rNum b s := by
  unfold wAny rNum rAny
  by_cases h1 : s.e = 0
  · by_cases h2 : (getNum b s.p).2.2 = 0
    · simp only [if_pos h1, if_pos h2]
      split
      · rw [RS.fail_pos rfl]
      · rfl
    · simp only [if_pos h1, if_neg h2]
      rw [if_neg (by decide)]
  · simp only [if_neg h1]
    rw [if_neg (by decide)]

theorem c_wnum (b : List UInt8) (s : RS) (x : Nat) (hb : b.length ≤ 2 ^ 45) (hs : s.ok b) {h : H} (hx : h x = some (RD b s)) :
    ACalls Tryd.prog W0 67 [.v (.ptr x 0)] h fun r h' => r = .v (V.i (rNum b s).1) ∧ h' = h.upd x (RD b (rNum b s).2) := by
  refine ACalls.of (C := CO [] fun _ => ([], [], 0)) (cOkO _ _) hP (fn := Tryd.f67) (by kernel_rfl) (by kernel_rfl) ?_
  have c := c_wany W0 b s 1099511627776 6 x (by decide) hb hs hx
  rw [wAny_num] at c
  refine c.mono ?_
  rintro _ _ ⟨rfl, rfl⟩
  exact ⟨rfl, rfl⟩

theorem rCount_err {b : List UInt8} {s s1 : RS} (h : rAny b s = (0, s1)) (hs : ¬ s1.e = 0) : rCount b s = (0, s1) := by
  unfold rCount; rw [h]; simp only [Nat.not_lt_zero, if_false]; rw [if_neg hs]
theorem wAny_count (b : List UInt8) (s : RS) (h1 : s.e = 0) : wAny b s (b.length - (getNum b s.p).2.1) 8 = rCount b s := by
  have hg := getNum_bound b s.p
  by_cases h2 : (getNum b s.p).2.2 = 0
  · have e : rAny b s = ((getNum b s.p).1, ⟨(getNum b s.p).2.1, 0⟩) := by rw [rAny_pos h1, if_pos h2]
    simp only [wAny, rCount, e, if_pos h1, if_pos h2]
    split
    · rw [RS.fail_pos rfl, if_neg (by show ¬ (8:Nat) = 0; decide)]
    · rw [if_pos rfl]
  · have e : rAny b s = (0, ⟨s.p, (getNum b s.p).2.2⟩) := by rw [rAny_pos h1, if_neg h2]
    rw [rCount_err e h2]
    simp only [wAny, if_pos h1, if_neg h2]

theorem c_wcount (b : List UInt8) (s : RS) (x : Nat) (hb : b.length ≤ 2 ^ 45) (hs : s.ok b) {h : H} (hx : h x = some (RD b s)) :
    ACalls Tryd.prog W0 64 [.v (.ptr x 0)] h fun r h' => r = .v (V.i (rCount b s).1) ∧ h' = h.upd x (RD b (rCount b s).2) := by
  have hp := hs.1
  have hg := getNum_bound b s.p
  have hl := bytes_length b
  refine ACalls.of (C := CO [] fun i => match i with | 3 => ([0, 1, 2, 3, 4, 5, 6, 7, 8, 9, 10, 11, 12, 13, 14, 15], [], 1) | _ => ([], [], 0)) (cOkO _ _) hP (fn := Tryd.f64) (by kernel_rfl) (by kernel_rfl) ?_
  refine ⟨_, ⟨hx, trivial⟩, ?_⟩
  refine ⟨fun c1 => ?_, fun c1 => ?_⟩
  · replace c1 : ¬ s.e = 0 := by
      have : ((s.e : Int) != 0) = true := c1
      simpa using this
    have e : rCount b s = (0, s) := rCount_err (rAny_neg c1) c1
    rw [e, H.upd_self hx]
    exact ⟨rfl, rfl⟩
  replace c1 : s.e = 0 := by
    have : ((s.e : Int) != 0) = false := c1
    simpa using this
  refine ⟨[], fun y => Nat.beq y x, ?_⟩
  refine ⟨_, ⟨hx, Nat.beq_refl x⟩, ?_⟩
  refine ⟨_, ⟨hx, Nat.beq_refl x⟩, ?_⟩
  refine (c_GetNum W0 b s.p (by omega) hb _).mono ?_
  rintro _ _ ⟨rfl, rfl⟩
  rw [H.back_hide]
  refine ⟨_, ⟨hx, trivial⟩, ?_⟩
  refine ⟨by show inI64 (((V.bytes b).length : Int) - ((getNum b s.p).2.1 : Int)); unfold inI64; omega, ?_⟩
  refine ⟨((b.length - (getNum b s.p).2.1 : Nat) : Int), by show IntKind.u64.wrap (max 0 (((V.bytes b).length : Int) - ((getNum b s.p).2.1 : Int))) = _; rw [wrapU64 (by omega) (by omega)]; omega, ?_⟩
  have c := c_wany W0 b s (b.length - (getNum b s.p).2.1) 8 x (by omega) hb hs hx
  rw [wAny_count b s c1] at c
  refine c.mono ?_
  rintro _ _ ⟨rfl, rfl⟩
  exact ⟨rfl, rfl⟩

theorem c_wrtext (b : List UInt8) (s : RS) (x : Nat) (hb : b.length ≤ 2 ^ 45) (hs : s.ok b) {h : H} (hx : h x = some (RD b s)) :
    ACalls Tryd.prog W0 75 [.v (.ptr x 0)] h fun r h' => r = .v (V.s (rText b s).1) ∧ h' = h.upd x (RD b (rText b s).2) := by
  obtain ⟨n, s1, hc⟩ : ∃ n s1, rCount b s = (n, s1) := ⟨_, _, rfl⟩
  have hok := rCount_ok hs
  rw [hc] at hok
  have hle : s1.p + n ≤ b.length := hok.2
  have hl := bytes_length b
  have cc := c_wcount W0 b s x hb hs hx
  rw [hc] at cc
  have ht : rText b s = (⟨((b.drop s1.p).take n).toArray⟩, ⟨s1.p + n, s1.e⟩) := by unfold rText; rw [hc]
  have hby : ((V.bytes b).take ((s1.p : Int) + (n : Int)).toNat).drop ((s1.p : Int)).toNat = V.bytes ((b.drop s1.p).take n) := by
    have e1 : ((s1.p : Int) + (n : Int)).toNat = s1.p + n := by omega
    have e2 : (s1.p : Int).toNat = s1.p := by omega
    have e3 : s1.p + n - s1.p = n := by omega
    rw [bytes_take_drop, e1, e2, List.drop_take, e3]
  rw [ht]
  refine ACalls.of (C := CO [] fun i => match i with | 2 => ([0, 1, 2, 3, 4, 5, 6, 7, 8, 9, 10, 11, 12, 13, 14, 15, 16], [], 0) | _ => ([], [], 0)) (cOkO _ _) hP (fn := Tryd.f75) (by kernel_rfl) (by kernel_rfl) ?_
  refine cc.mono ?_
  rintro _ _ ⟨rfl, rfl⟩
  refine ⟨_, ⟨H.upd_get _ _ _, trivial⟩, ?_⟩
  refine ⟨_, ⟨H.upd_get _ _ _, trivial⟩, ?_⟩
  refine ⟨_, ⟨H.upd_get _ _ _, trivial⟩, ?_⟩
  refine ⟨by show inI64 ((s1.p : Int) + (n : Int)); unfold inI64; omega, ?_⟩
  refine ⟨⟨by show (0:Int) ≤ (s1.p : Int) + (n : Int); omega, by show (s1.p : Int) + (n : Int) ≤ ((V.bytes b).length : Int); omega⟩, ?_⟩
  refine ⟨⟨by show (0:Int) ≤ (s1.p : Int); omega, by show (s1.p : Int) ≤ ((((s1.p : Int) + (n : Int)).toNat : Nat) : Int); omega⟩, ?_⟩
  refine ⟨(b.drop s1.p).take n, hby, ?_⟩
  refine ⟨_, ⟨H.upd_get _ _ _, trivial⟩, ?_⟩
  refine ⟨by show inI64 ((s1.p : Int) + (n : Int)); unfold inI64; omega, ?_⟩
  refine ⟨rfl, _, H.upd_get _ _ _, ?_⟩
  refine ⟨rfl, ?_⟩
  exact H.upd_upd _ _ _ _


theorem c_wbody (b : List UInt8) (s : RS) (x : Nat) (hb : b.length ≤ 2 ^ 32) (hs : s.ok b) {h : H} (hx : h x = some (RD b s)) :
    ACalls Tryd.prog W0 76 [.v (.ptr x 0)] h fun r h' => r = .v (.agg (rBody b s).1.v) ∧ h' = h.upd x (RD b (rBody b s).2) := by
  obtain ⟨t, s1, e1⟩ : ∃ n s1, rText b s = (n, s1) := ⟨_, _, rfl⟩
  have hs1 : s1.ok b := by have := rText_ok hs; rw [e1] at this; exact this
  have c1 := c_wrtext W0 b s x (by omega) hs hx; rw [e1] at c1
  have ht : t.data.toList.length ≤ b.length := by
    have : t = (rText b s).1 := by rw [e1]
    rw [this]; unfold rText; simp; omega
  have kk : ∀ (q : Part × RS), rBody b s = q → (A.v (.agg q.1.v) = A.v (.agg (rBody b s).1.v) ∧ h.upd x (RD b q.2) = h.upd x (RD b (rBody b s).2)) := by rintro q rfl; exact ⟨rfl, rfl⟩
  obtain ⟨p, e2⟩ : ∃ p, (readPart t.data.toList).1 = p := ⟨_, rfl⟩
  obtain ⟨k, e3⟩ : ∃ k, (readPart t.data.toList).2 = k := ⟨_, rfl⟩
  have c2 := c_Read W0 t.data.toList (by omega) (h.upd x (RD b s1))
  rw [e2, e3] at c2
  refine ACalls.of (C := CO [] fun _ => ([], [], 0)) (cOkO _ _) hP (fn := Tryd.f76) (by kernel_rfl) (by kernel_rfl) ?_
  refine c1.mono ?_
  rintro _ _ ⟨rfl, rfl⟩
  refine ⟨_, ⟨H.upd_get _ _ _, trivial⟩, ?_⟩
  refine ⟨fun c3 => ?_, fun c3 => ?_⟩
  · replace c3 : ¬ s1.e = 0 := by
      have : ((s1.e : Int) != 0) = true := c3
      simpa using this
    have e := kk (⟨⟨#[]⟩, 0, []⟩, s1) (by simp only [rBody, e1, if_neg c3])
    exact e
  replace c3 : s1.e = 0 := by
    have : ((s1.e : Int) != 0) = false := c3
    simpa using this
  refine c2.mono ?_
  rintro _ _ ⟨rfl, rfl⟩
  refine (c_wfail W0 b s1 k x (H.upd_get _ _ _)).mono ?_
  rintro _ _ ⟨rfl, rfl⟩
  have e := kk (p, s1.fail k) (by simp only [rBody, e1, if_pos c3, e2, e3])
  exact ⟨e.1, (H.upd_upd _ _ _ _).trans e.2⟩
end Go.AI

namespace Go.AI
open Go.Proofs Go
variable (W0 : World)
set_option maxRecDepth 20000
set_option maxHeartbeats 2000000

def MCn (j : Nat) (v k f t i : Int) (M L : A) (n : Int) : HO :=
  match j with
  | 0 => MC v f t i M L n
  | 1 => MC k v t i M L n
  | 2 => MC k f v i M L n
  | 3 => MC k f t v M L n
  | _ => MC k f t i M L v

/-- The reader's object and the message's. -/
def HG (h : H) (x xm : Nat) (b : List UInt8) (s : RS) (m : HO) : H := (h.upd x (RD b s)).upd xm m
theorem HG.x {h : H} {x xm : Nat} {b : List UInt8} {s : RS} {m : HO} (hn : x ≠ xm) : HG h x xm b s m x = some (RD b s) := by
  unfold HG; rw [H.upd_ne _ _ hn, H.upd_get]
theorem HG.m {h : H} {x xm : Nat} {b : List UInt8} {s : RS} {m : HO} : HG h x xm b s m xm = some m := H.upd_get _ _ _
theorem HG.updx {h : H} {x xm : Nat} {b : List UInt8} {s s2 : RS} {m : HO} (hn : x ≠ xm) : (HG h x xm b s m).upd x (RD b s2) = HG h x xm b s2 m := by
  unfold HG; rw [H.upd_comm _ _ _ (Ne.symm hn), H.upd_upd]
theorem HG.updm {h : H} {x xm : Nat} {b : List UInt8} {s : RS} {m m2 : HO} : (HG h x xm b s m).upd xm m2 = HG h x xm b s m2 := by
  unfold HG; rw [H.upd_upd]

theorem c_nget (k f t i n : Int) (M L : A) (j : Nat) (hj : j = 0 ∨ j = 1 ∨ j = 2 ∨ j = 3 ∨ j = 6) (b : List UInt8) (s : RS) (x xm : Nat) (hn : x ≠ xm) (hb : b.length ≤ 2 ^ 45) (hs : s.ok b) (h : H) :
    ACalls Tryd.prog W0 65 [.v (.agg [.ptr xm j]), .v (.ptr x 0)] (HG h x xm b s (MC k f t i M L n)) fun r h' => r = .v (.tup []) ∧ h' = HG h x xm b (rNum b s).2 (MCn j (rNum b s).1 k f t i M L n) := by
  have c := c_wnum W0 b s x hb hs (HG.x (h := h) (m := MC k f t i M L n) hn)
  rw [HG.updx hn] at c
  rcases hj with rfl | rfl | rfl | rfl | rfl
  all_goals
    refine ACalls.of (C := CO [] fun i => match i with | 1 => ([0, 1, 2, 3, 4], [5], 1) | _ => ([], [], 0)) (cOkO _ _) hP (fn := Tryd.f65) (by kernel_rfl) (by kernel_rfl) ?_
    refine ⟨[], fun _ => false, ?_⟩
    refine c.mono ?_
    rintro _ _ ⟨rfl, rfl⟩
    refine ⟨rfl, _, HG.m, ?_⟩
    exact ⟨rfl, HG.updm⟩

theorem c_mget (k f t i n : Int) (L : A) (b : List UInt8) (s : RS) (x xm : Nat) (hn : x ≠ xm) (hb : b.length ≤ 2 ^ 32) (hs : s.ok b) (h : H) :
    ACalls Tryd.prog W0 73 [.v (.agg [.ptr xm 4]), .v (.ptr x 0)] (HG h x xm b s (MC k f t i (.own 4 []) L n)) fun r h' => r = .v (.tup []) ∧
      h' = HG h x xm b (rList b (rMut b) s).2 (MC k f t i (.own 4 ((rList b (rMut b) s).1.map fun m => .agg m.v)) L n) := by
  obtain ⟨cnt, s1, e1⟩ : ∃ n s1, rCount b s = (n, s1) := ⟨_, _, rfl⟩
  have hok := rCount_ok hs; rw [e1] at hok
  have hs1 : s1.ok b := hok.1
  have hcn : s1.p + cnt ≤ b.length := hok.2
  have c1 := c_wcount W0 b s x (by omega) hs (HG.x (h := h) (m := MC k f t i (.own 4 []) L n) hn); rw [e1, HG.updx hn] at c1
  have el : rList b (rMut b) s = rMany (rMut b) cnt s1 := by simp only [rList, e1]
  rw [el]
  refine ACalls.of (C := CO [30] fun i => match i with | 6 => ([0, 1, 2, 3, 4, 5, 6, 7, 8, 9], [10], 0) | _ => ([], [], 0)) (cOkO _ _) hP (fn := Tryd.f73) (by kernel_rfl) (by kernel_rfl) ?_
  refine c1.mono ?_
  rintro _ _ ⟨rfl, rfl⟩
  refine ⟨0, [1, 2, 4], 1, fun m xs l h2 => ∃ (q : Int) (acc : List V) (l0 : List Mut) (s2 : RS), xs = [.v (.ptr x 0), .lp 0 0, .v (V.i q)] ∧ l = [.cells [.v (.ptr xm 4)]] ∧ h2 = HG h x xm b s2 (MC k f t i (.own 4 acc) L n) ∧
      q = (m : Nat) ∧ acc = l0.map (fun m => .agg m.v) ∧ s2.ok b ∧ l0.length + m = cnt ∧ l0 ++ (rMany (rMut b) m s2).1 = (rMany (rMut b) cnt s1).1 ∧ (rMany (rMut b) m s2).2 = (rMany (rMut b) cnt s1).2,
    ⟨cnt, _, [], [], s1, rfl, rfl, rfl, rfl, rfl, hs1, by show 0 + cnt = cnt; omega, rfl, rfl⟩, ?_⟩
  rintro m xs l h2 ⟨q, acc, l0, s2, rfl, rfl, rfl, rfl, rfl, hs2, hL, hl1, hl2⟩
  replace hL : l0.length + (m : Nat) = cnt := hL
  refine ⟨_, fun _ => ⟨HG.x hn, trivial⟩, ?_⟩
  have conv : ∀ y : Bool, y = (bif decide ((0:Int) < ((m : Nat) : Int)) then ((s2.e : Int) == 0) else false) → (y = true ↔ 0 < (m : Nat) ∧ s2.e = 0) := by
    rintro y rfl
    simp only [Bool.cond_false_right, Bool.and_eq_true, beq_iff_eq, decide_eq_true_eq]
    omega
  refine ⟨fun c2 => ?_, fun c2 => ?_⟩
  · obtain ⟨g1, g2⟩ := (conv _ rfl).1 c2
    cases m with
    | zero => omega
    | succ m =>
    have hm : rMany (rMut b) (m + 1) s2 = ((rMut b s2).1 :: (rMany (rMut b) m (rMut b s2).2).1, (rMany (rMut b) m (rMut b s2).2).2) := by
      simp only [rMany]; rw [if_pos g2]
    rw [hm] at hl1 hl2
    have c3 := c_wrtext W0 b s2 x (by omega) hs2 (HG.x (h := h) (m := MC k f t i (.own 4 (l0.map fun m => .agg m.v)) L n) hn)
    rw [HG.updx hn] at c3
    have c4 := c_wbody W0 b (rText b s2).2 x hb (rText_ok hs2) (HG.x (h := h) (m := MC k f t i (.own 4 (l0.map fun m => .agg m.v)) L n) hn)
    rw [HG.updx hn] at c4
    refine c3.mono ?_
    rintro _ _ ⟨rfl, rfl⟩
    refine c4.mono ?_
    rintro _ _ ⟨rfl, rfl⟩
    refine ⟨_, ⟨HG.m, trivial⟩, ?_⟩
    refine ⟨?_, _, rfl, ?_⟩
    · show ((l0.map fun m => V.agg m.v).length + 1) * 64 ≤ 70368744177664
      rw [List.length_map]; omega
    have hfr : (Fr.hc xm 4).h (HG h x xm b (rBody b (rText b s2).2).2 (MC k f t i (.own 4 (l0.map fun m => .agg m.v)) L n)) = HG h x xm b (rBody b (rText b s2).2).2 (MC k f t i (.v (.sl 4 (l0.map fun m => .agg m.v))) L n) := by
      rw [Fr.h_hc HG.m, ← HG.updm (m := MC k f t i (.own 4 (l0.map fun m => .agg m.v)) L n) (m2 := MC k f t i (.v (.sl 4 (l0.map fun m => .agg m.v))) L n)]; rfl
    refine ⟨rfl, _, (congrFun hfr xm).trans HG.m, ?_⟩
    refine ⟨by show inI64 (((m + 1 : Nat) : Int) - 1); unfold inI64; omega, ?_⟩
    refine ⟨m, by show m < m + 1; omega, _, _, l0 ++ [(rMut b s2).1], (rMut b s2).2, rfl, rfl, (congrArg (fun z => H.upd z xm _) hfr).trans HG.updm, by omega, by simp; rfl, rMut_ok hs2, by simp; omega, ?_, hl2⟩
    rw [← hl1]; simp
  · replace c2 : ¬ (0 < (m : Nat) ∧ s2.e = 0) := fun hh => Bool.false_ne_true (c2.symm.trans ((conv _ rfl).2 hh))
    have hm : rMany (rMut b) m s2 = ([], s2) := by
      cases m with
      | zero => rfl
      | succ m => simp only [rMany]; rw [if_neg (fun h0 => c2 ⟨Nat.succ_pos m, h0⟩)]
    rw [hm] at hl1 hl2
    rw [← hl1, ← hl2]
    simp only [List.append_nil]
    exact ⟨rfl, rfl⟩

theorem c_tget (k f t i n : Int) (M : A) (b : List UInt8) (s : RS) (x xm : Nat) (hn : x ≠ xm) (hb : b.length ≤ 2 ^ 32) (hs : s.ok b) (h : H) :
    ACalls Tryd.prog W0 100 [.v (.agg [.ptr xm 5]), .v (.ptr x 0)] (HG h x xm b s (MC k f t i M (.own 1 []) n)) fun r h' => r = .v (.tup []) ∧
      h' = HG h x xm b (rList b (rText b) s).2 (MC k f t i M (.own 1 ((rList b (rText b) s).1.map V.s)) n) := by
  obtain ⟨cnt, s1, e1⟩ : ∃ n s1, rCount b s = (n, s1) := ⟨_, _, rfl⟩
  have hok := rCount_ok hs; rw [e1] at hok
  have hs1 : s1.ok b := hok.1
  have hcn : s1.p + cnt ≤ b.length := hok.2
  have c1 := c_wcount W0 b s x (by omega) hs (HG.x (h := h) (m := MC k f t i M (.own 1 []) n) hn); rw [e1, HG.updx hn] at c1
  have el : rList b (rText b) s = rMany (rText b) cnt s1 := by simp only [rList, e1]
  rw [el]
  refine ACalls.of (C := CO [23] fun i => match i with | 4 => ([0, 1, 2, 3, 4, 5, 6, 7, 8, 9, 10], [11], 1) | _ => ([], [], 0)) (cOkO _ _) hP (fn := Tryd.f100) (by kernel_rfl) (by kernel_rfl) ?_
  refine c1.mono ?_
  rintro _ _ ⟨rfl, rfl⟩
  refine ⟨0, [1, 2, 4], 1, fun m xs l h2 => ∃ (q : Int) (acc : List V) (l0 : List Str) (s2 : RS), xs = [.v (.ptr x 0), .lp 0 0, .v (V.i q)] ∧ l = [.cells [.v (.ptr xm 5)]] ∧ h2 = HG h x xm b s2 (MC k f t i M (.own 1 acc) n) ∧
      q = (m : Nat) ∧ acc = l0.map V.s ∧ s2.ok b ∧ l0.length + m = cnt ∧ l0 ++ (rMany (rText b) m s2).1 = (rMany (rText b) cnt s1).1 ∧ (rMany (rText b) m s2).2 = (rMany (rText b) cnt s1).2,
    ⟨cnt, _, [], [], s1, rfl, rfl, rfl, rfl, rfl, hs1, by show 0 + cnt = cnt; omega, rfl, rfl⟩, ?_⟩
  rintro m xs l h2 ⟨q, acc, l0, s2, rfl, rfl, rfl, rfl, rfl, hs2, hL, hl1, hl2⟩
  replace hL : l0.length + (m : Nat) = cnt := hL
  refine ⟨_, fun _ => ⟨HG.x hn, trivial⟩, ?_⟩
  have conv : ∀ y : Bool, y = (bif decide ((0:Int) < ((m : Nat) : Int)) then ((s2.e : Int) == 0) else false) → (y = true ↔ 0 < (m : Nat) ∧ s2.e = 0) := by
    rintro y rfl
    simp only [Bool.cond_false_right, Bool.and_eq_true, beq_iff_eq, decide_eq_true_eq]
    omega
  refine ⟨fun c2 => ?_, fun c2 => ?_⟩
  · obtain ⟨g1, g2⟩ := (conv _ rfl).1 c2
    cases m with
    | zero => omega
    | succ m =>
    have hm : rMany (rText b) (m + 1) s2 = ((rText b s2).1 :: (rMany (rText b) m (rText b s2).2).1, (rMany (rText b) m (rText b s2).2).2) := by
      simp only [rMany]; rw [if_pos g2]
    rw [hm] at hl1 hl2
    have hfr : (Fr.hc xm 5).h (HG h x xm b s2 (MC k f t i M (.own 1 (l0.map V.s)) n)) = HG h x xm b s2 (MC k f t i M (.v (.sl 1 (l0.map V.s))) n) := by
      rw [Fr.h_hc HG.m, ← HG.updm (m := MC k f t i M (.own 1 (l0.map V.s)) n) (m2 := MC k f t i M (.v (.sl 1 (l0.map V.s))) n)]; rfl
    have c3 := c_wrtext W0 b s2 x (by omega) hs2 (h := (HG h x xm b s2 (MC k f t i M (.v (.sl 1 (l0.map V.s))) n)).hide fun z => Nat.beq z xm) ((H.hide_ne hn).trans (HG.x hn))
    rw [← hfr] at c3
    have hbk := H.back_upd (HG h x xm b s2 (MC k f t i M (.v (.sl 1 (l0.map V.s))) n)) (RD b (rText b s2).2) hn
    rw [HG.updx hn, ← hfr] at hbk
    refine ⟨[], fun z => Nat.beq z xm, ?_⟩
    refine ⟨_, ⟨HG.m, Nat.beq_refl xm⟩, ?_⟩
    refine c3.mono ?_
    rintro _ _ ⟨rfl, rfl⟩
    refine ⟨?_, _, rfl, ?_⟩
    · show ((l0.map V.s).length + 1) * 16 ≤ 70368744177664
      rw [List.length_map]; omega
    refine ⟨rfl, _, (congrFun hbk xm).trans HG.m, ?_⟩
    refine ⟨by show inI64 (((m + 1 : Nat) : Int) - 1); unfold inI64; omega, ?_⟩
    refine ⟨m, by show m < m + 1; omega, _, _, l0 ++ [(rText b s2).1], (rText b s2).2, rfl, rfl, (congrArg (fun z => H.upd z xm _) hbk).trans HG.updm, by omega, by simp; rfl, rText_ok hs2, by simp; omega, ?_, hl2⟩
    rw [← hl1]; simp
  · replace c2 : ¬ (0 < (m : Nat) ∧ s2.e = 0) := fun hh => Bool.false_ne_true (c2.symm.trans ((conv _ rfl).2 hh))
    have hm : rMany (rText b) m s2 = ([], s2) := by
      cases m with
      | zero => rfl
      | succ m => simp only [rMany]; rw [if_neg (fun h0 => c2 ⟨Nat.succ_pos m, h0⟩)]
    rw [hm] at hl1 hl2
    rw [← hl1, ← hl2]
    simp only [List.append_nil]
    exact ⟨rfl, rfl⟩
end Go.AI

namespace Go.AI
open Go.Proofs Go
variable (W0 : World)
set_option maxRecDepth 20000
set_option maxHeartbeats 2000000

theorem rCount_le (b : List UInt8) (s : RS) : (rCount b s).1 ≤ b.length := by
  have hf : ¬ ((rAny b s).2.fail 8).e = 0 := by
    intro h
    by_cases h0 : (rAny b s).2.e = 0
    · rw [RS.fail_pos h0] at h; cases h
    · rw [RS.fail_neg h0] at h; exact h0 h
  unfold rCount
  by_cases c : b.length - (rAny b s).2.p < (rAny b s).1
  · simp only [if_pos c, if_neg hf]; exact Nat.zero_le _
  · simp only [if_neg c]
    split
    · simp only []; omega
    · exact Nat.zero_le _
theorem rMany_mem {α : Type} (one : RS → α × RS) : ∀ (n : Nat) (s : RS) (x : α), x ∈ (rMany one n s).1 → ∃ s2, x = (one s2).1 := by
  intro n
  induction n with
  | zero => intro s x h; cases h
  | succ n ih =>
    intro s x h
    simp only [rMany] at h
    split at h
    · rcases List.mem_cons.1 h with rfl | h
      · exact ⟨s, rfl⟩
      · exact ih _ _ h
    · cases h
theorem rText_size (b : List UInt8) (s : RS) : (rText b s).1.size ≤ b.length := by
  show ((b.drop (rCount b s).2.p).take (rCount b s).1).length ≤ b.length
  simp; omega
theorem rList_len {α : Type} (b : List UInt8) (one : RS → α × RS) (s : RS) : (rList b one s).1.length ≤ b.length := Nat.le_trans (rMany_len one _ _) (rCount_le b s)
theorem rRow_sized (b : List UInt8) (hb : b.length ≤ 2 ^ 45) (s : RS) : (rRow b s).1.sized := by
  refine ⟨?_, fun c hc => ?_⟩
  · simp only [rRow]; exact Nat.le_trans (rList_len _ _ _) hb
  · simp only [rRow] at hc
    obtain ⟨s2, rfl⟩ := rMany_mem _ _ _ _ hc
    have := rText_size b s2
    show (rText b s2).1.size ≤ 2 ^ 60
    omega
theorem rPart_sized (b : List UInt8) (hb : b.length ≤ 2 ^ 45) (s : RS) : (rPart b s).1.sized := by
  refine ⟨?_, fun c hc => ?_⟩
  · simp only [rPart]; exact Nat.le_trans (rList_len _ _ _) hb
  · simp only [rPart] at hc
    obtain ⟨s2, rfl⟩ := rMany_mem _ _ _ _ hc
    exact rRow_sized b hb s2
theorem rMut_sized (b : List UInt8) (hb : b.length ≤ 2 ^ 45) (s : RS) : (rMut b s).1.sized := by
  have h1 := rText_size b s
  refine ⟨by show (rText b s).1.size ≤ 2 ^ 60; omega, ?_⟩
  show (rBody b (rText b s).2).1.sized
  simp only [rBody]
  split
  · unfold readPart
    exact rPart_sized _ (by rw [str_len]; have := rText_size b (rText b s).2; omega) _
  · exact ⟨Nat.zero_le _, fun r hr => by cases hr⟩

theorem c_Get (hD : DecC W0) (s : Str) (h : H) : ACalls Tryd.prog W0 11 [.v (V.s s)] h fun r h' => r = .v (.tup [.agg (getMsg s).1.v, V.i (getMsg s).2]) ∧ h' = h := by
  have kk : ∀ q : Msg × Nat, getMsg s = q → A.v (.tup [.agg q.1.v, V.i q.2]) = A.v (.tup [.agg (getMsg s).1.v, V.i (getMsg s).2]) := by rintro q rfl; rfl
  obtain ⟨b, eb⟩ : ∃ b, s.data.toList = b := ⟨_, rfl⟩
  have hbl : b.length = s.size := by rw [← eb, str_len]
  obtain ⟨k, s1, e1⟩ : ∃ n s1, rNum b ⟨0, 0⟩ = (n, s1) := ⟨_, _, rfl⟩
  obtain ⟨f, s2, e2⟩ : ∃ n s2, rNum b s1 = (n, s2) := ⟨_, _, rfl⟩
  obtain ⟨t, s3, e3⟩ : ∃ n s3, rNum b s2 = (n, s3) := ⟨_, _, rfl⟩
  obtain ⟨i, s4, e4⟩ : ∃ n s4, rNum b s3 = (n, s4) := ⟨_, _, rfl⟩
  obtain ⟨n, s5, e5⟩ : ∃ n s5, rNum b s4 = (n, s5) := ⟨_, _, rfl⟩
  obtain ⟨m, s6, e6⟩ : ∃ n s6, rList b (rMut b) s5 = (n, s6) := ⟨_, _, rfl⟩
  obtain ⟨l, s7, e7⟩ : ∃ n s7, rList b (rText b) s6 = (n, s7) := ⟨_, _, rfl⟩
  have hs0 : RS.ok b ⟨0, 0⟩ := ⟨Nat.zero_le _, by show (0:Nat) < 16; decide⟩
  have hs1 : s1.ok b := by have := (rNum_ok hs0).1; rw [e1] at this; exact this
  have hs2 : s2.ok b := by have := (rNum_ok hs1).1; rw [e2] at this; exact this
  have hs3 : s3.ok b := by have := (rNum_ok hs2).1; rw [e3] at this; exact this
  have hs4 : s4.ok b := by have := (rNum_ok hs3).1; rw [e4] at this; exact this
  have hs5 : s5.ok b := by have := (rNum_ok hs4).1; rw [e5] at this; exact this
  have hs6 : s6.ok b := by have := rList_ok (one := rMut b) (fun s hs => rMut_ok hs) hs5; rw [e6] at this; exact this
  have hs7 : s7.ok b := by have := rList_ok (one := rText b) (fun s hs => rText_ok hs) hs6; rw [e7] at this; exact this
  have er : rMsg b ⟨0, 0⟩ = (⟨k, f, t, i, m, l, n⟩, rEnd b s7) := by simp only [rMsg, e1, e2, e3, e4, e5, e6, e7]
  have hsz : b.length ≤ 2 ^ 45 → (⟨k, f, t, i, m, l, n⟩ : Msg).sized := by
    intro hb x hx
    have e : m = (rList b (rMut b) s5).1 := by rw [e6]
    replace hx : x ∈ (rList b (rMut b) s5).1 := by rw [← e]; exact hx
    obtain ⟨s2, rfl⟩ := rMany_mem _ _ _ _ hx
    exact rMut_sized b hb s2
  refine ACalls.forget (Q := fun r h' => r = .v (.tup [.agg (getMsg s).1.v, V.i (getMsg s).2]) ∧ H.le h h') ?_ (by rintro a h' ⟨rfl, hle⟩; exact ⟨h, hle, rfl, rfl⟩)
  refine ACalls.of (C := CO [] fun i => match i with | 10 => ([0, 1, 2, 3, 4, 5, 6, 7, 8, 9], [], 0) | 15 => ([0, 1, 2, 3, 4, 5, 6], [], 2) | _ => ([], [], 0)) (cOkO _ _) hP (fn := Tryd.f11) (by kernel_rfl) (by kernel_rfl) ?_
  refine ⟨fun c1 => ?_, fun c1 => ?_⟩
  · replace c1 : 4096 < s.size := by
      have : (4096 : Int) < (s.size : Int) := of_decide_eq_true c1
      omega
    exact ⟨kk (Msg.none, 2) (by unfold getMsg; rw [if_pos c1]), H.le_refl _⟩
  replace c1 : ¬ 4096 < s.size := by
    have : ¬ (4096 : Int) < (s.size : Int) := of_decide_eq_false c1
    omega
  replace hsz := hsz (by omega)
  have hb : b.length ≤ 2 ^ 32 := by omega
  intro xm hxm
  replace hxm : h xm = none := hxm
  refine (c_pieces W0 xm _).mono ?_
  rintro _ _ ⟨rfl, rfl⟩
  refine ⟨1, ?_⟩
  refine ⟨fun _ => ?_, fun c => (nomatch (show true = false from c))⟩
  refine ⟨.ifc 71 (.agg [.ptr xm 0]), ⟨by decide, rfl⟩, ?_⟩
  intro x hx
  have hn : x ≠ xm := by
    rintro rfl
    have : (some _ : Option HO) = none := (H.upd_get _ _ _).symm.trans hx
    cases this
  have hx0 : h x = none := by
    have := H.upd_ne h (x := xm) (y := x) (MC 0 0 0 0 (.own 4 []) (.own 1 []) 0) hn
    rw [← this]; exact hx
  subst eb
  have e0 : (h.upd xm (MC 0 0 0 0 (.own 4 []) (.own 1 []) 0)).upd x (RD s.data.toList ⟨0, 0⟩) = HG h x xm s.data.toList ⟨0, 0⟩ (MC 0 0 0 0 (.own 4 []) (.own 1 []) 0) := H.upd_comm _ _ _ (Ne.symm hn)
  have hle : ∀ (s1 : RS) (m : HO), H.le h (HG h x xm s.data.toList s1 m) := by
    intro s1 m y o hy
    by_cases h1 : y = xm
    · subst h1; rw [hxm] at hy; cases hy
    · by_cases h2 : y = x
      · subst h2; rw [hx0] at hy; cases hy
      · unfold HG; rw [H.upd_ne _ _ h1, H.upd_ne _ _ h2]; exact hy
  have cn1 := c_nget W0 0 0 0 0 0 (.own 4 []) (.own 1 []) 0 (by decide) s.data.toList ⟨0, 0⟩ x xm hn (by omega) hs0 h
  rw [e1, ← e0] at cn1
  refine cn1.mono ?_
  rintro _ _ ⟨rfl, rfl⟩
  refine ⟨by show inI64 _; unfold inI64; decide, ?_⟩
  have cn2 := c_nget W0 k 0 0 0 0 (.own 4 []) (.own 1 []) 1 (by decide) s.data.toList s1 x xm hn (by omega) hs1 h
  rw [e2] at cn2
  have cn3 := c_nget W0 k f 0 0 0 (.own 4 []) (.own 1 []) 2 (by decide) s.data.toList s2 x xm hn (by omega) hs2 h
  rw [e3] at cn3
  have cn4 := c_nget W0 k f t 0 0 (.own 4 []) (.own 1 []) 3 (by decide) s.data.toList s3 x xm hn (by omega) hs3 h
  rw [e4] at cn4
  have cn5 := c_nget W0 k f t i 0 (.own 4 []) (.own 1 []) 6 (by decide) s.data.toList s4 x xm hn (by omega) hs4 h
  rw [e5] at cn5
  have cn6 := c_mget W0 k f t i n (.own 1 []) s.data.toList s5 x xm hn hb hs5 h
  rw [e6] at cn6
  have cn7 := c_tget W0 k f t i n (.own 4 (m.map fun m => .agg m.v)) s.data.toList s6 x xm hn hb hs6 h
  rw [e7] at cn7
  refine ⟨[2, 4, 5, 16, 17, 18], 3, fun mm xs lo h2 => ∃ (j : Nat) (q : Int) (sj : RS) (mj : HO), xs = [.lp 0 0, .lp 1 0, .lp 2 0, .own 1 (piecesV xm), .v (V.i 7), .v (V.i q)] ∧ lo = [.cells [.v (V.i 0), .v (V.i 0), .v (V.i 0), .v (V.i 0), .own 4 [], .own 1 [], .v (V.i 0)], .fwd x, .fwd xm] ∧ h2 = HG h x xm s.data.toList sj mj ∧ mm + j = 7 ∧ q = j ∧ 1 ≤ j ∧
      [(s1, MC k 0 0 0 (.own 4 []) (.own 1 []) 0), (s2, MC k f 0 0 (.own 4 []) (.own 1 []) 0), (s3, MC k f t 0 (.own 4 []) (.own 1 []) 0), (s4, MC k f t i (.own 4 []) (.own 1 []) 0), (s5, MC k f t i (.own 4 []) (.own 1 []) n), (s6, MC k f t i (.own 4 (m.map fun m => .agg m.v)) (.own 1 []) n), (s7, MC k f t i (.own 4 (m.map fun m => .agg m.v)) (.own 1 (l.map V.s)) n)][j - 1]? = some (sj, mj),
    ⟨6, 1, _, _, _, rfl, rfl, rfl, by decide, rfl, Nat.le_refl 1, rfl⟩, ?_⟩
  rintro mm xs lo h2 ⟨j, q, sj, mj, rfl, rfl, rfl, hj, rfl, hj1, hsj⟩
  replace hj : (mm : Nat) + j = 7 := hj
  rcases Nat.eq_or_lt_of_le (show 1 ≤ j by omega) with rfl | hk1
  · obtain rfl : mm = 6 := by omega
    cases hsj
    refine ⟨fun _ => ?_, fun c => (nomatch (show true = false from c))⟩
    refine ⟨.ifc 71 (.agg [.ptr xm 1]), ⟨by decide, rfl⟩, ?_⟩
    refine cn2.mono ?_
    rintro _ _ ⟨rfl, rfl⟩
    refine ⟨by show inI64 _; unfold inI64; decide, ?_⟩
    exact ⟨5, by decide, 2, _, _, _, rfl, rfl, rfl, by decide, rfl, by decide, rfl⟩
  rcases Nat.eq_or_lt_of_le (show 2 ≤ j by omega) with rfl | hk2
  · obtain rfl : mm = 5 := by omega
    cases hsj
    refine ⟨fun _ => ?_, fun c => (nomatch (show true = false from c))⟩
    refine ⟨.ifc 71 (.agg [.ptr xm 2]), ⟨by decide, rfl⟩, ?_⟩
    refine cn3.mono ?_
    rintro _ _ ⟨rfl, rfl⟩
    refine ⟨by show inI64 _; unfold inI64; decide, ?_⟩
    exact ⟨4, by decide, 3, _, _, _, rfl, rfl, rfl, by decide, rfl, by decide, rfl⟩
  rcases Nat.eq_or_lt_of_le (show 3 ≤ j by omega) with rfl | hk3
  · obtain rfl : mm = 4 := by omega
    cases hsj
    refine ⟨fun _ => ?_, fun c => (nomatch (show true = false from c))⟩
    refine ⟨.ifc 71 (.agg [.ptr xm 3]), ⟨by decide, rfl⟩, ?_⟩
    refine cn4.mono ?_
    rintro _ _ ⟨rfl, rfl⟩
    refine ⟨by show inI64 _; unfold inI64; decide, ?_⟩
    exact ⟨3, by decide, 4, _, _, _, rfl, rfl, rfl, by decide, rfl, by decide, rfl⟩
  rcases Nat.eq_or_lt_of_le (show 4 ≤ j by omega) with rfl | hk4
  · obtain rfl : mm = 3 := by omega
    cases hsj
    refine ⟨fun _ => ?_, fun c => (nomatch (show true = false from c))⟩
    refine ⟨.ifc 71 (.agg [.ptr xm 6]), ⟨by decide, rfl⟩, ?_⟩
    refine cn5.mono ?_
    rintro _ _ ⟨rfl, rfl⟩
    refine ⟨by show inI64 _; unfold inI64; decide, ?_⟩
    exact ⟨2, by decide, 5, _, _, _, rfl, rfl, rfl, by decide, rfl, by decide, rfl⟩
  rcases Nat.eq_or_lt_of_le (show 5 ≤ j by omega) with rfl | hk5
  · obtain rfl : mm = 2 := by omega
    cases hsj
    refine ⟨fun _ => ?_, fun c => (nomatch (show true = false from c))⟩
    refine ⟨.ifc 74 (.agg [.ptr xm 4]), ⟨by decide, rfl⟩, ?_⟩
    refine cn6.mono ?_
    rintro _ _ ⟨rfl, rfl⟩
    refine ⟨by show inI64 _; unfold inI64; decide, ?_⟩
    exact ⟨1, by decide, 6, _, _, _, rfl, rfl, rfl, by decide, rfl, by decide, rfl⟩
  rcases Nat.eq_or_lt_of_le (show 6 ≤ j by omega) with rfl | hk6
  · obtain rfl : mm = 1 := by omega
    cases hsj
    refine ⟨fun _ => ?_, fun c => (nomatch (show true = false from c))⟩
    refine ⟨.ifc 77 (.agg [.ptr xm 5]), ⟨by decide, rfl⟩, ?_⟩
    refine cn7.mono ?_
    rintro _ _ ⟨rfl, rfl⟩
    refine ⟨by show inI64 _; unfold inI64; decide, ?_⟩
    exact ⟨0, by decide, 7, _, _, _, rfl, rfl, rfl, by decide, rfl, by decide, rfl⟩
  obtain rfl : j = 7 := by omega
  cases hsj
  refine ⟨fun c => (nomatch (show false = true from c)), fun _ => ?_⟩
  have hl := bytes_length s.data.toList
  have cf : ∀ (s8 : RS) (e : Nat), ACalls Tryd.prog W0 23 [.v (.ptr x 0), .v (V.i e)] (HG h x xm s.data.toList s8 (MC k f t i (.own 4 (m.map fun m => .agg m.v)) (.own 1 (l.map V.s)) n)) fun r h' => r = .v (.tup []) ∧ h' = HG h x xm s.data.toList (s8.fail e) (MC k f t i (.own 4 (m.map fun m => .agg m.v)) (.own 1 (l.map V.s)) n) := by
    intro s8 e
    have := c_wfail W0 s.data.toList s8 e x (HG.x (h := h) (b := s.data.toList) (s := s8) (m := (MC k f t i (.own 4 (m.map fun m => .agg m.v)) (.own 1 (l.map V.s)) n)) hn)
    rw [HG.updx hn] at this
    exact this
  refine ⟨_, ⟨HG.x hn, trivial⟩, ?_⟩
  refine ⟨_, ⟨HG.x hn, trivial⟩, ?_⟩
  refine ⟨fun c5 => ?_, fun c5 => ?_⟩
  · replace c5 : s7.p < s.data.toList.length := by
      have : (s7.p : Int) < ((V.bytes s.data.toList).length : Int) := of_decide_eq_true c5
      omega
    have he8 : rEnd s.data.toList s7 = s7.fail 6 := by unfold rEnd; rw [if_pos c5]
    refine (cf s7 6).mono ?_
    rintro _ _ ⟨rfl, rfl⟩
    refine ⟨_, ⟨HG.m, trivial⟩, ?_⟩
    refine (c_checkMsg W0 hD ⟨k, f, t, i, m, l, n⟩ hsz _).mono ?_
    rintro _ _ ⟨rfl, rfl⟩
    refine ⟨fun c8 => ?_, fun c8 => ?_⟩
    · replace c8 := not_t c8
      refine (cf (RS.fail s7 6) 1).mono ?_
      rintro _ _ ⟨rfl, rfl⟩
      have hne : ¬ (RS.fail (RS.fail s7 6) 1).e = 0 := by
        intro h0
        by_cases h1 : (RS.fail s7 6).e = 0
        · rw [RS.fail_pos h1] at h0; cases h0
        · rw [RS.fail_neg h1] at h0; exact h1 h0
      refine ⟨_, ⟨HG.x hn, trivial⟩, ?_⟩
      refine ⟨fun c9 => ?_, fun c9 => ?_⟩
      · refine ⟨0, ?_⟩
        refine ⟨_, ⟨HG.x hn, trivial⟩, ?_⟩
        exact ⟨kk (Msg.none, (RS.fail (RS.fail s7 6) 1).e) (by simp only [getMsg, if_neg c1, er, he8, c8, Bool.false_eq_true, if_false, if_neg hne]), hle _ _⟩
      · exact absurd (by simpa using (show (((RS.fail (RS.fail s7 6) 1).e : Int) != 0) = false from c9)) hne
    · replace c8 := not_f c8
      refine ⟨_, ⟨HG.x hn, trivial⟩, ?_⟩
      refine ⟨fun c9 => ?_, fun c9 => ?_⟩
      · have hne : ¬ (RS.fail s7 6).e = 0 := by simpa using (show (((RS.fail s7 6).e : Int) != 0) = true from c9)
        refine ⟨0, ?_⟩
        refine ⟨_, ⟨HG.x hn, trivial⟩, ?_⟩
        exact ⟨kk (Msg.none, (RS.fail s7 6).e) (by simp only [getMsg, if_neg c1, er, he8, c8, if_true, if_neg hne]), hle _ _⟩
      · have hz : (RS.fail s7 6).e = 0 := by simpa using (show (((RS.fail s7 6).e : Int) != 0) = false from c9)
        refine ⟨_, ⟨HG.m, trivial⟩, ?_⟩
        exact ⟨kk (⟨k, f, t, i, m, l, n⟩, 0) (by simp only [getMsg, if_neg c1, er, he8, c8, if_true, if_pos hz]), hle _ _⟩
  · replace c5 : ¬ s7.p < s.data.toList.length := by
      have : ¬ (s7.p : Int) < ((V.bytes s.data.toList).length : Int) := of_decide_eq_false c5
      omega
    have he8 : rEnd s.data.toList s7 = s7 := by unfold rEnd; rw [if_neg c5]
    refine ⟨_, ⟨HG.m, trivial⟩, ?_⟩
    refine (c_checkMsg W0 hD ⟨k, f, t, i, m, l, n⟩ hsz _).mono ?_
    rintro _ _ ⟨rfl, rfl⟩
    refine ⟨fun c8 => ?_, fun c8 => ?_⟩
    · replace c8 := not_t c8
      refine (cf s7 1).mono ?_
      rintro _ _ ⟨rfl, rfl⟩
      have hne : ¬ (RS.fail s7 1).e = 0 := by
        intro h0
        by_cases h1 : s7.e = 0
        · rw [RS.fail_pos h1] at h0; cases h0
        · rw [RS.fail_neg h1] at h0; exact h1 h0
      refine ⟨_, ⟨HG.x hn, trivial⟩, ?_⟩
      refine ⟨fun c9 => ?_, fun c9 => ?_⟩
      · refine ⟨0, ?_⟩
        refine ⟨_, ⟨HG.x hn, trivial⟩, ?_⟩
        exact ⟨kk (Msg.none, (RS.fail s7 1).e) (by simp only [getMsg, if_neg c1, er, he8, c8, Bool.false_eq_true, if_false, if_neg hne]), hle _ _⟩
      · exact absurd (by simpa using (show (((RS.fail s7 1).e : Int) != 0) = false from c9)) hne
    · replace c8 := not_f c8
      refine ⟨_, ⟨HG.x hn, trivial⟩, ?_⟩
      refine ⟨fun c9 => ?_, fun c9 => ?_⟩
      · have hne : ¬ s7.e = 0 := by simpa using (show ((s7.e : Int) != 0) = true from c9)
        refine ⟨0, ?_⟩
        refine ⟨_, ⟨HG.x hn, trivial⟩, ?_⟩
        exact ⟨kk (Msg.none, s7.e) (by simp only [getMsg, if_neg c1, er, he8, c8, if_true, if_neg hne]), hle _ _⟩
      · have hz : s7.e = 0 := by simpa using (show ((s7.e : Int) != 0) = false from c9)
        refine ⟨_, ⟨HG.m, trivial⟩, ?_⟩
        exact ⟨kk (⟨k, f, t, i, m, l, n⟩, 0) (by simp only [getMsg, if_neg c1, er, he8, c8, if_true, if_pos hz]), hle _ _⟩

theorem getMsg_sized (s : Str) (hs : s.size ≤ 2 ^ 45) : (getMsg s).1.sized ∧ (getMsg s).1.muts.length ≤ s.size ∧ (getMsg s).1.keys.length ≤ s.size := by
  have hn : Msg.none.sized ∧ Msg.none.muts.length ≤ s.size ∧ Msg.none.keys.length ≤ s.size := ⟨fun x hx => (by cases hx), Nat.zero_le _, Nat.zero_le _⟩
  have hl := str_len s
  have hr : (rMsg s.data.toList ⟨0, 0⟩).1.sized ∧ (rMsg s.data.toList ⟨0, 0⟩).1.muts.length ≤ s.size ∧ (rMsg s.data.toList ⟨0, 0⟩).1.keys.length ≤ s.size := by
    refine ⟨fun x hx => ?_, ?_, ?_⟩
    · simp only [rMsg] at hx
      obtain ⟨s2, rfl⟩ := rMany_mem _ _ _ _ hx
      exact rMut_sized _ (by omega) s2
    · simp only [rMsg]; rw [← hl]; exact rList_len _ _ _
    · simp only [rMsg]; rw [← hl]; exact rList_len _ _ _
  unfold getMsg
  split
  · exact hn
  · simp only []
    generalize (if checkMsg (rMsg s.data.toList ⟨0, 0⟩).1 = true then (rMsg s.data.toList ⟨0, 0⟩).2 else (rMsg s.data.toList ⟨0, 0⟩).2.fail 1).e = e
    by_cases h0 : e = 0
    · rw [if_pos h0]; exact hr
    · rw [if_neg h0]; exact hn
end Go.AI
