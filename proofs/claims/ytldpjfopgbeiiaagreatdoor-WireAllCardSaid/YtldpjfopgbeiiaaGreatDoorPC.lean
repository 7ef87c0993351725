/- Part of a proof: an interpreter of the loaded code over abstract values, its soundness, and what the functions compute. Nothing is claimed here. -/
import Derived.Test.YtldpjfopgbeiiaaGreatDoorPB
import Derived.Lib.DecodeN

/- Cells, rows, partitions, messages: there and back. -/
namespace Go.AI
open Go
def canonCell (c : Cell) : Prop := natB c.at_ ∧ natB c.end_ ∧ (c.at_ = 0 → c = ⟨⟨#[]⟩, false, 0, 0⟩) ∧ (c.at_ ≠ 0 → c.dead = true → c.val = ⟨#[]⟩ ∧ c.end_ = 0)
theorem Good.zero {b : List UInt8} {α : Type} {r : RS → α × RS} {enc : α → List UInt8} {ok : α → Prop} (h : Good b r enc ok) {s : RS} (he : (r s).2.e = 0) : s.e = 0 := by
  rcases Nat.eq_zero_or_pos s.e with h0 | h0
  · exact h0
  · exact absurd he (h.stick s (by omega))

theorem good_cell (b : List UInt8) (hb : b.length < 2 ^ 64) : Good b (rCell b) encCell canonCell := by
  have gn := good_num b
  have gt := good_text b hb
  have gd := good_truth b
  refine ⟨fun {p c q} hc hs => ?_, fun {p c q} hp h => ?_, fun s hs => ?_⟩
  · obtain ⟨val, dead, at_, end_⟩ := c
    obtain ⟨⟨h1, h2⟩, ⟨h3, h4⟩, h5, h6⟩ := hc
    replace h1 : 0 ≤ at_ := h1
    replace h2 : at_ ≤ 1099511627776 := h2
    replace h3 : 0 ≤ end_ := h3
    replace h4 : end_ ≤ 1099511627776 := h4
    replace h5 : at_ = 0 → (⟨val, dead, at_, end_⟩ : Cell) = ⟨⟨#[]⟩, false, 0, 0⟩ := h5
    replace h6 : at_ ≠ 0 → dead = true → val = ⟨#[]⟩ ∧ end_ = 0 := h6
    have ha : ((at_.toNat : Nat) : Int) = at_ := by omega
    have hen : ((end_.toNat : Nat) : Int) = end_ := by omega
    unfold encCell at hs
    by_cases c1 : at_ = 0
    · rw [if_pos c1] at hs
      have k1 := gn.fwd (x := at_.toNat) (by omega) hs
      have k2 : at_.toNat = 0 := by omega
      simp only [rCell, k1, if_pos k2]
      rw [h5 c1]
    · rw [if_neg c1] at hs
      have k2 : ¬ at_.toNat = 0 := by omega
      cases dead with
      | true =>
        rw [if_pos rfl] at hs
        obtain ⟨a1, a2⟩ := hs.split
        have k1 := gn.fwd (x := at_.toNat) (by omega) a1
        have k3 := gd.fwd (x := true) trivial a2
        simp only [rCell, k1, if_neg k2, k3, if_true]
        rw [ha, (h6 c1 rfl).1, (h6 c1 rfl).2]
      | false =>
        rw [if_neg Bool.false_ne_true] at hs
        have hs2 : Bs b p q (numB at_.toNat ++ ([0] ++ (encText val ++ numB end_.toNat))) := by simpa using hs
        obtain ⟨a1, a2⟩ := hs2.split
        obtain ⟨a2, a3⟩ := a2.split
        obtain ⟨a3, a4⟩ := a3.split
        have k1 := gn.fwd (x := at_.toNat) (by omega) a1
        have k3 := gd.fwd (x := false) trivial a2
        have k4 := gt.fwd (x := val) trivial a3
        have k5 := gn.fwd (x := end_.toNat) (by omega) a4
        simp only [rCell, k1, if_neg k2, k3, Bool.false_eq_true, if_false, k4, k5]
        rw [ha, hen]
  · obtain ⟨n, s1, e1⟩ : ∃ n s1, rNum b ⟨p, 0⟩ = (n, s1) := ⟨_, _, rfl⟩
    obtain ⟨d, s2, e2⟩ : ∃ d s2, rTruth b s1 = (d, s2) := ⟨_, _, rfl⟩
    obtain ⟨t, s3, e3⟩ : ∃ t s3, rText b s2 = (t, s3) := ⟨_, _, rfl⟩
    obtain ⟨e, s4, e4⟩ : ∃ e s4, rNum b s3 = (e, s4) := ⟨_, _, rfl⟩
    simp only [rCell, e1, e2, e3, e4] at h
    split at h
    · rename_i h0
      simp only [Prod.mk.injEq] at h
      obtain ⟨rfl, rfl⟩ := h
      have k := gn.bwd hp e1
      subst h0
      exact ⟨⟨⟨Int.le_refl 0, by show (0:Int) ≤ 1099511627776; decide⟩, ⟨Int.le_refl 0, by show (0:Int) ≤ 1099511627776; decide⟩, fun _ => rfl, fun h => absurd rfl h⟩, k.2⟩
    · rename_i h0
      have ha : ¬ ((n : Int) = 0) := by omega
      split at h
      · rename_i hd
        simp only [Prod.mk.injEq] at h
        obtain ⟨rfl, rfl⟩ := h
        have z1 : s1.e = 0 := gd.zero (by rw [e2])
        rw [RS.eta0 z1] at e1 e2
        have k1 := gn.bwd hp e1
        have k2 := gd.bwd k1.2.le e2
        rw [hd] at k2
        refine ⟨⟨⟨by show (0:Int) ≤ (n : Int); omega, by show (n : Int) ≤ 1099511627776; have := k1.1; omega⟩, ⟨Int.le_refl 0, by show (0:Int) ≤ 1099511627776; decide⟩, fun h => absurd h ha, fun _ _ => ⟨rfl, rfl⟩⟩, ?_⟩
        unfold encCell
        rw [if_neg ha, if_pos rfl]
        have := k1.2.app k2.2
        exact this
      · rename_i hd
        simp only [Prod.mk.injEq] at h
        obtain ⟨rfl, rfl⟩ := h
        have z3 : s3.e = 0 := gn.zero (by rw [e4])
        have z2 : s2.e = 0 := gt.zero (by rw [e3]; exact z3)
        have z1 : s1.e = 0 := gd.zero (by rw [e2]; exact z2)
        rw [RS.eta0 z1] at e1 e2
        rw [RS.eta0 z2] at e2 e3
        rw [RS.eta0 z3] at e3 e4
        have k1 := gn.bwd hp e1
        have k2 := gd.bwd k1.2.le e2
        have k3 := gt.bwd k2.2.le e3
        have k4 := gn.bwd k3.2.le e4
        rw [if_neg hd] at k2
        refine ⟨⟨⟨by show (0:Int) ≤ (n : Int); omega, by show (n : Int) ≤ 1099511627776; have := k1.1; omega⟩, ⟨by show (0:Int) ≤ (e : Int); omega, by show (e : Int) ≤ 1099511627776; have := k4.1; omega⟩, fun h => absurd h ha, fun _ h => by cases h⟩, ?_⟩
        unfold encCell
        rw [if_neg ha, if_neg Bool.false_ne_true]
        exact ((k1.2.app k2.2).app k3.2).app k4.2
  · obtain ⟨n, s1, e1⟩ : ∃ n s1, rNum b s = (n, s1) := ⟨_, _, rfl⟩
    obtain ⟨d, s2, e2⟩ : ∃ d s2, rTruth b s1 = (d, s2) := ⟨_, _, rfl⟩
    obtain ⟨t, s3, e3⟩ : ∃ t s3, rText b s2 = (t, s3) := ⟨_, _, rfl⟩
    obtain ⟨e, s4, e4⟩ : ∃ e s4, rNum b s3 = (e, s4) := ⟨_, _, rfl⟩
    have h1 := gn.stick s hs
    rw [e1] at h1
    have h2 := gd.stick s1 h1
    rw [e2] at h2
    have h3 := gt.stick s2 h2
    rw [e3] at h3
    have h4 := gn.stick s3 h3
    rw [e4] at h4
    simp only [rCell, e1, e2, e3, e4]
    split
    · exact h1
    · split
      · exact h2
      · exact h4

theorem many_stick {α : Type} {one : RS → α × RS} : ∀ (n : Nat) (s : RS), s.e ≠ 0 → (rMany one n s).2.e ≠ 0 := by
  intro n s hs
  cases n with
  | zero => exact hs
  | succ n => simp only [rMany]; rw [if_neg hs]; exact hs
theorem many_fwd {b : List UInt8} {α : Type} {one : RS → α × RS} {enc : α → List UInt8} {ok : α → Prop} (g : Good b one enc ok) : ∀ (l : List α) (p q : Nat), (∀ x ∈ l, ok x) → Bs b p q (l.flatMap enc) → rMany one l.length ⟨p, 0⟩ = (l, ⟨q, 0⟩) := by
  intro l
  induction l with
  | nil => intro p q _ h; have := h.q; simp at this; subst this; rfl
  | cons x l ih =>
    intro p q ho h
    rw [List.flatMap_cons] at h
    obtain ⟨a1, a2⟩ := h.split
    have k1 := g.fwd (ho x (by simp)) a1
    have k2 := ih _ _ (fun y hy => ho y (by simp [hy])) a2
    simp only [List.length_cons, rMany, k1, k2, if_true]
theorem many_bwd {b : List UInt8} {α : Type} {one : RS → α × RS} {enc : α → List UInt8} {ok : α → Prop} (g : Good b one enc ok) : ∀ (n p : Nat) (l : List α) (q : Nat), p ≤ b.length → rMany one n ⟨p, 0⟩ = (l, ⟨q, 0⟩) → l.length = n ∧ (∀ x ∈ l, ok x) ∧ Bs b p q (l.flatMap enc) := by
  intro n
  induction n with
  | zero =>
    intro p l q hp h
    simp only [rMany, Prod.mk.injEq, RS.mk.injEq, and_true] at h
    obtain ⟨rfl, rfl⟩ := h
    exact ⟨rfl, fun x hx => (by cases hx), Bs.nil hp⟩
  | succ n ih =>
    intro p l q hp h
    obtain ⟨x, s1, e1⟩ : ∃ x s1, one ⟨p, 0⟩ = (x, s1) := ⟨_, _, rfl⟩
    obtain ⟨l2, s2, e2⟩ : ∃ l2 s2, rMany one n s1 = (l2, s2) := ⟨_, _, rfl⟩
    simp only [rMany, e1, e2, if_true, Prod.mk.injEq] at h
    obtain ⟨rfl, rfl⟩ := h
    have z1 : s1.e = 0 := by
      rcases Nat.eq_zero_or_pos s1.e with h0 | h0
      · exact h0
      · have := many_stick (one := one) n s1 (by omega)
        rw [e2] at this
        exact absurd rfl this
    rw [RS.eta0 z1] at e1 e2
    have k1 := g.bwd hp e1
    obtain ⟨k2, k3, k4⟩ := ih _ _ _ k1.2.le e2
    refine ⟨by simp [k2], fun y hy => ?_, by rw [List.flatMap_cons]; exact k1.2.app k4⟩
    rcases List.mem_cons.1 hy with rfl | hy
    · exact k1.1
    · exact k3 y hy
theorem flatMap_ge {α : Type} {enc : α → List UInt8} : ∀ {l : List α}, (∀ x ∈ l, 1 ≤ (enc x).length) → l.length ≤ (l.flatMap enc).length := by
  intro l
  induction l with
  | nil => intro _; exact Nat.le_refl 0
  | cons x l ih =>
    intro h
    have h1 := h x (by simp)
    have h2 := ih fun y hy => h y (by simp [hy])
    rw [List.flatMap_cons, List.length_append, List.length_cons]
    omega
theorem good_list {b : List UInt8} (hb : b.length < 2 ^ 64) {α : Type} {one : RS → α × RS} {enc : α → List UInt8} {ok : α → Prop} (g : Good b one enc ok) (hpos : ∀ x, 1 ≤ (enc x).length) :
    Good b (rList b one) (fun l => numB l.length ++ l.flatMap enc) (fun l => ∀ x ∈ l, ok x) := by
  refine ⟨fun {p l q} hl hs => ?_, fun {p l q} hp h => ?_, fun s hs => ?_⟩
  · obtain ⟨a1, a2⟩ := Bs.split hs
    have h1 := flatMap_ge (l := l) (enc := enc) fun x _ => hpos x
    have h2 := a2.le
    have h3 := a2.q
    have hc := count_fwd (v := l.length) (by omega) a1 (by omega)
    unfold rList
    rw [hc]
    exact many_fwd g l _ _ hl a2
  · obtain ⟨n, s1, e1⟩ : ∃ n s1, rCount b ⟨p, 0⟩ = (n, s1) := ⟨_, _, rfl⟩
    unfold rList at h
    rw [e1] at h
    have z1 : s1.e = 0 := by
      rcases Nat.eq_zero_or_pos s1.e with h0 | h0
      · exact h0
      · have := many_stick (one := one) n s1 (by omega)
        rw [h] at this
        exact absurd rfl this
    rw [RS.eta0 z1] at e1 h
    obtain ⟨k1, k2, k3⟩ := count_bwd e1
    obtain ⟨k4, k5, k6⟩ := many_bwd g n _ l q k2.le h
    refine ⟨k5, ?_⟩
    show Bs b p q (numB l.length ++ l.flatMap enc)
    rw [k4]
    exact k2.app k6
  · exact many_stick _ _ (count_stick b s hs)

theorem numB_pos (v : Nat) : 1 ≤ (numB v).length := by rw [numB_length]; omega
theorem encText_pos (s : Str) : 1 ≤ (encText s).length := by unfold encText; rw [List.length_append]; have := numB_pos s.size; omega

theorem good_col (b : List UInt8) (hb : b.length < 2 ^ 64) : Good b (rCol b) encCol (fun c => canonCell c.cell) := by
  have := ((good_text b hb).seq (good_cell b hb)).map (f := fun x : Str × Cell => (⟨x.1, x.2⟩ : Col)) (e2 := encCol) (o2 := fun c => canonCell c.cell) (fun x => rfl) (fun x h => h.2) (fun y h => ⟨(y.name, y.cell), ⟨trivial, h⟩, rfl⟩)
  exact this
def rowOK (r : Row) : Prop := canonCell r.live ∧ natB r.gone ∧ natB r.shade ∧ ∀ c ∈ r.cols, canonCell c.cell
theorem good_row (b : List UInt8) (hb : b.length < 2 ^ 64) : Good b (rRow b) encRow rowOK := by
  have g := ((good_text b hb).seq ((good_cell b hb).seq ((good_num b).seq ((good_num b).seq (good_list hb (good_col b hb) (fun c => by unfold encCol; rw [List.length_append]; have := encText_pos c.name; omega))))))
  have := g.map (f := fun x => (⟨x.1, x.2.1, (x.2.2.1 : Nat), (x.2.2.2.1 : Nat), x.2.2.2.2⟩ : Row)) (e2 := encRow) (o2 := rowOK)
    (fun x => by simp [encRow]) (fun x h => ⟨h.2.1, ⟨by show (0:Int) ≤ ((x.2.2.1 : Nat) : Int); omega, by show ((x.2.2.1 : Nat) : Int) ≤ 1099511627776; have := h.2.2.1; omega⟩, ⟨by show (0:Int) ≤ ((x.2.2.2.1 : Nat) : Int); omega, by show ((x.2.2.2.1 : Nat) : Int) ≤ 1099511627776; have := h.2.2.2.1; omega⟩, h.2.2.2.2⟩)
    (fun y h => by
      obtain ⟨k, c, g, s, l⟩ := y
      obtain ⟨h1, ⟨h2, h3⟩, ⟨h4, h5⟩, h6⟩ := h
      replace h2 : 0 ≤ g := h2
      replace h3 : g ≤ 1099511627776 := h3
      replace h4 : 0 ≤ s := h4
      replace h5 : s ≤ 1099511627776 := h5
      refine ⟨(k, c, g.toNat, s.toNat, l), ⟨trivial, h1, by show g.toNat ≤ 1099511627776; omega, by show s.toNat ≤ 1099511627776; omega, h6⟩, ?_⟩
      show (⟨k, c, ((g.toNat : Nat) : Int), ((s.toNat : Nat) : Int), l⟩ : Row) = _
      rw [show ((g.toNat : Nat) : Int) = g by omega, show ((s.toNat : Nat) : Int) = s by omega])
  have e : rRow b = mapR (fun x : Str × Cell × Nat × Nat × List Col => (⟨x.1, x.2.1, (x.2.2.1 : Nat), (x.2.2.2.1 : Nat), x.2.2.2.2⟩ : Row)) (seqR (rText b) (seqR (rCell b) (seqR (rNum b) (seqR (rNum b) (rList b (rCol b)))))) := by
    funext s; simp only [rRow, mapR, seqR]
  rw [e]
  exact this
def partOK (p : Part) : Prop := natB p.gone ∧ ∀ r ∈ p.rows, rowOK r
def rPart0 (b : List UInt8) : RS → Part × RS := mapR (fun x : Str × Nat × List Row => (⟨x.1, (x.2.1 : Nat), x.2.2⟩ : Part)) (seqR (rText b) (seqR (rNum b) (rList b (rRow b))))
theorem good_part (b : List UInt8) (hb : b.length < 2 ^ 64) : Good b (rPart0 b) encPart partOK := by
  have g := ((good_text b hb).seq ((good_num b).seq (good_list hb (good_row b hb) (fun r => by unfold encRow; simp only [List.length_append]; have := encText_pos r.key; omega))))
  exact g.map (f := fun x : Str × Nat × List Row => (⟨x.1, (x.2.1 : Nat), x.2.2⟩ : Part)) (e2 := encPart) (o2 := partOK)
    (fun x => by simp [encPart]) (fun x h => ⟨⟨by show (0:Int) ≤ ((x.2.1 : Nat) : Int); omega, by show ((x.2.1 : Nat) : Int) ≤ 1099511627776; have := h.2.1; omega⟩, h.2.2⟩)
    (fun y h => by
      obtain ⟨k, g, l⟩ := y
      obtain ⟨⟨h2, h3⟩, h6⟩ := h
      replace h2 : 0 ≤ g := h2
      replace h3 : g ≤ 1099511627776 := h3
      refine ⟨(k, g.toNat, l), ⟨trivial, by show g.toNat ≤ 1099511627776; omega, h6⟩, ?_⟩
      show (⟨k, ((g.toNat : Nat) : Int), l⟩ : Part) = _
      rw [show ((g.toNat : Nat) : Int) = g by omega])
theorem rPart_eq (b : List UInt8) (s : RS) : rPart b s = ((rPart0 b s).1, rEnd b (rPart0 b s).2) := by simp only [rPart, rPart0, mapR, seqR]
theorem rEnd_zero {b : List UInt8} {s : RS} (hp : s.p ≤ b.length) : (rEnd b s).e = 0 ↔ s = ⟨b.length, 0⟩ := by
  unfold rEnd
  split
  · rename_i h
    constructor
    · intro h0; exact absurd h0 (fail_ne (by decide))
    · intro h0; rw [h0] at h; exact absurd h (Nat.lt_irrefl _)
  · rename_i h
    constructor
    · intro h0; cases s; simp only [] at h h0 hp ⊢; subst h0; congr 1; omega
    · intro h0; rw [h0]
theorem rEnd_at (b : List UInt8) : rEnd b ⟨b.length, 0⟩ = ⟨b.length, 0⟩ := by unfold rEnd; rw [if_neg (Nat.lt_irrefl _)]

theorem readPart_fwd {p : Part} (hp : partOK p) (hl : (encPart p).length ≤ 262144) : readPart (encPart p) = (p, 0) := by
  have g := (good_part (encPart p) (by omega)).fwd (p := 0) (q := (encPart p).length) hp (by have := Bs.of (encPart p) []; rw [List.append_nil] at this; exact this)
  unfold readPart
  rw [if_neg (by omega), rPart_eq, g]
  show (p, (rEnd (encPart p) ⟨(encPart p).length, 0⟩).e) = _
  rw [rEnd_at]
theorem rPart0_ok {b : List UInt8} {s : RS} (h : s.ok b) : (rPart0 b s).2.ok b := by
  have h1 := rText_ok h
  have h2 := (rNum_ok h1).1
  simp only [rPart0, mapR, seqR]
  exact rList_ok (one := rRow b) (fun s hs => rRow_ok hs) h2
theorem readPart_bwd {b : List UInt8} {p : Part} (h : readPart b = (p, 0)) : partOK p ∧ b = encPart p ∧ b.length ≤ 262144 := by
  unfold readPart at h
  by_cases c : 262144 < b.length
  · simp only [if_pos c, Prod.mk.injEq] at h
    obtain ⟨h1, h2⟩ := h
    rw [rPart_eq] at h2
    have := (rEnd_zero (rPart0_ok (b := b) (s := ⟨0, 2⟩) ⟨Nat.zero_le _, by show (2:Nat) < 16; decide⟩).1).1 h2
    exfalso
    -- an error stays
    have hs : (rPart0 b ⟨0, 2⟩).2.e ≠ 0 := by
      have k1 : (rText b ⟨0, 2⟩).2.e ≠ 0 := count_stick b ⟨0, 2⟩ (by decide)
      have k2 := (good_num b).stick _ k1
      simp only [rPart0, mapR, seqR]
      exact many_stick _ _ (count_stick b _ k2)
    rw [this] at hs
    exact hs rfl
  · simp only [if_neg c, Prod.mk.injEq] at h
    obtain ⟨h1, h2⟩ := h
    rw [rPart_eq] at h1 h2
    have e := (rEnd_zero (rPart0_ok (b := b) (s := ⟨0, 0⟩) ⟨Nat.zero_le _, by show (0:Nat) < 16; decide⟩).1).1 h2
    have k := (good_part b (by omega)).bwd (p := 0) (x := p) (q := b.length) (Nat.zero_le _) (by rw [← e, ← h1])
    exact ⟨k.1, Bs.whole k.2, by omega⟩

theorem good_body (b : List UInt8) (hb : b.length < 2 ^ 64) : Good b (rBody b) (fun p => encText ⟨(encPart p).toArray⟩) (fun p => partOK p ∧ (encPart p).length ≤ 262144) := by
  have gt := good_text b hb
  refine ⟨fun {p x q} hx hs => ?_, fun {p x q} hp h => ?_, fun s hs => ?_⟩
  · have k := gt.fwd (x := ⟨(encPart x).toArray⟩) trivial hs
    simp only [rBody, k, if_true, readPart_fwd hx.1 hx.2]
    rfl
  · obtain ⟨t, s1, e1⟩ : ∃ t s1, rText b ⟨p, 0⟩ = (t, s1) := ⟨_, _, rfl⟩
    simp only [rBody, e1] at h
    split at h
    · rename_i z1
      rw [RS.eta0 z1] at e1
      have k := gt.bwd hp e1
      obtain ⟨y, k2, hr⟩ : ∃ y k, readPart t.data.toList = (y, k) := ⟨_, _, rfl⟩
      rw [hr] at h
      simp only [Prod.mk.injEq] at h
      obtain ⟨rfl, h2⟩ := h
      rw [RS.fail_pos z1] at h2
      simp only [RS.mk.injEq] at h2
      obtain ⟨h3, h4⟩ := h2
      subst h4
      obtain ⟨m1, m2, m3⟩ := readPart_bwd hr
      refine ⟨⟨m1, by rw [← m2]; exact m3⟩, ?_⟩
      show Bs b p q (encText ⟨(encPart y).toArray⟩)
      rw [← m2, mk_str, ← h3]
      exact k.2
    · rename_i z1
      simp only [Prod.mk.injEq] at h
      rw [h.2] at z1
      exact absurd rfl z1
  · have k := gt.stick s hs
    simp only [rBody]
    rw [if_neg k]
    exact k
def mutOK (m : Mut) : Prop := partOK m.part ∧ (encPart m.part).length ≤ 262144
theorem good_mut (b : List UInt8) (hb : b.length < 2 ^ 64) : Good b (rMut b) encMut mutOK := by
  have := ((good_text b hb).seq (good_body b hb)).map (f := fun x : Str × Part => (⟨x.1, x.2⟩ : Mut)) (e2 := encMut) (o2 := mutOK) (fun x => rfl) (fun x h => h.2) (fun y h => ⟨(y.table, y.part), ⟨trivial, h⟩, rfl⟩)
  exact this
def msgOK (m : Msg) : Prop := natB m.kind ∧ natB m.frm ∧ natB m.to ∧ natB m.id ∧ natB m.num ∧ ∀ x ∈ m.muts, mutOK x
def rMsg0 (b : List UInt8) : RS → Msg × RS := mapR (fun x : Nat × Nat × Nat × Nat × Nat × List Mut × List Str => (⟨(x.1 : Nat), (x.2.1 : Nat), (x.2.2.1 : Nat), (x.2.2.2.1 : Nat), x.2.2.2.2.2.1, x.2.2.2.2.2.2, (x.2.2.2.2.1 : Nat)⟩ : Msg))
  (seqR (rNum b) (seqR (rNum b) (seqR (rNum b) (seqR (rNum b) (seqR (rNum b) (seqR (rList b (rMut b)) (rList b (rText b))))))))
theorem good_msg (b : List UInt8) (hb : b.length < 2 ^ 64) : Good b (rMsg0 b) encMsg msgOK := by
  have gn := good_num b
  have g := gn.seq (gn.seq (gn.seq (gn.seq (gn.seq ((good_list hb (good_mut b hb) (fun m => by unfold encMut; rw [List.length_append]; have := encText_pos m.table; omega)).seq (good_list hb (good_text b hb) encText_pos))))))
  have nb : ∀ n : Nat, n ≤ 1099511627776 → natB (n : Int) := fun n h => ⟨by omega, by omega⟩
  exact g.map (e2 := encMsg) (o2 := msgOK)
    (fun x => by simp [encMsg]) (fun x h => ⟨nb _ h.1, nb _ h.2.1, nb _ h.2.2.1, nb _ h.2.2.2.1, nb _ h.2.2.2.2.1, h.2.2.2.2.2.1⟩)
    (fun y h => by
      obtain ⟨k, f, t, i, m, l, n⟩ := y
      obtain ⟨⟨h1, g1⟩, ⟨h2, g2⟩, ⟨h3, g3⟩, ⟨h4, g4⟩, ⟨h5, g5⟩, h6⟩ := h
      simp only [] at h1 g1 h2 g2 h3 g3 h4 g4 h5 g5
      refine ⟨(k.toNat, f.toNat, t.toNat, i.toNat, n.toNat, m, l), ⟨by show k.toNat ≤ _; omega, by show f.toNat ≤ _; omega, by show t.toNat ≤ _; omega, by show i.toNat ≤ _; omega, by show n.toNat ≤ _; omega, h6, fun _ _ => trivial⟩, ?_⟩
      show (⟨((k.toNat : Nat) : Int), ((f.toNat : Nat) : Int), ((t.toNat : Nat) : Int), ((i.toNat : Nat) : Int), m, l, ((n.toNat : Nat) : Int)⟩ : Msg) = _
      rw [show ((k.toNat : Nat) : Int) = k by omega, show ((f.toNat : Nat) : Int) = f by omega, show ((t.toNat : Nat) : Int) = t by omega, show ((i.toNat : Nat) : Int) = i by omega, show ((n.toNat : Nat) : Int) = n by omega])
theorem rMsg_eq (b : List UInt8) (s : RS) : rMsg b s = ((rMsg0 b s).1, rEnd b (rMsg0 b s).2) := by simp only [rMsg, rMsg0, mapR, seqR]
end Go.AI

/- What is put is got; what is got is put: plain Lean. -/
namespace Go.AI
open Go
theorem inB_nat {v k : Int} (h : inB v k = true) (hk : k ≤ 1099511627776) : natB v := by
  have : 0 ≤ v ∧ v ≤ k := by simpa [inB] using h
  exact ⟨this.1, by omega⟩
theorem checkCell_canon {c : Cell} (h : checkCell c = true) : canonCell c := by
  have hp := checkCell_pos h
  refine ⟨hp.1, hp.2, fun h0 => ?_, fun h0 hd => ?_⟩
  · unfold checkCell at h
    split at h
    · obtain ⟨val, dead, at_, end_⟩ := c
      simp only [Bool.and_eq_true, decide_eq_true_eq, Bool.not_eq_true'] at h
      obtain ⟨⟨h1, h2⟩, h3⟩ := h
      replace h0 : at_ = 0 := h0
      rw [h1, h2, h3, h0]
    · cases h
  · unfold checkCell at h
    split at h
    · simp only [Bool.and_eq_true, decide_eq_true_eq] at h
      exact h
    · cases h
theorem colsOK_canon : ∀ {l : List Col} {o : Option Str}, colsOK o l = true → ∀ c ∈ l, canonCell c.cell := by
  intro l
  induction l with
  | nil => intro o _ c hc; cases hc
  | cons a r ih =>
    intro o h c hc
    simp only [colsOK, Bool.and_eq_true] at h
    rcases List.mem_cons.1 hc with rfl | hc
    · exact checkCell_canon h.1.1.2
    · exact ih h.2 c hc
theorem checkRow_OK {r : Row} (h : checkRow r = true) : rowOK r := by
  have hp := checkRow_pos h
  simp only [checkRow, Bool.and_eq_true] at h
  exact ⟨checkCell_canon h.1.1.1.1.1.1.2, hp.2.1, hp.2.2.1, colsOK_canon h.2⟩
theorem rowsOK_OK : ∀ {l : List Row} {o : Option Str}, rowsOK o l = true → ∀ c ∈ l, rowOK c := by
  intro l
  induction l with
  | nil => intro o _ c hc; cases hc
  | cons a r ih =>
    intro o h c hc
    simp only [rowsOK, Bool.and_eq_true] at h
    rcases List.mem_cons.1 hc with rfl | hc
    · exact checkRow_OK h.1.1
    · exact ih h.2 c hc
theorem checkPart_OK {p : Part} (h : checkPart p = true) : partOK p := by
  have hp := checkPart_pos h
  simp only [checkPart, Bool.and_eq_true] at h
  exact ⟨hp.1, rowsOK_OK h.2⟩
theorem checkMsg_OK {m : Msg} (h : checkMsg m = true) : msgOK m := by
  simp only [checkMsg, Bool.and_eq_true, decide_eq_true_eq, List.all_eq_true] at h
  obtain ⟨⟨⟨⟨⟨⟨⟨⟨⟨h1, h2⟩, h3⟩, h4⟩, h5⟩, h6⟩, h7⟩, h8⟩, h9⟩, h10⟩ := h
  refine ⟨⟨by omega, by omega⟩, inB_nat h3 (by decide), inB_nat h4 (by decide), inB_nat h5 (by decide), inB_nat h6 (by decide), fun x hx => ?_⟩
  have := (h10 x hx).2
  exact ⟨checkPart_OK this, by have := encPart_le this; omega⟩

theorem putMsg_ok {m : Msg} {a : Str} (h : putMsg m = (a, 0)) : checkMsg m = true ∧ a = ⟨(encMsg m).toArray⟩ ∧ (encMsg m).length ≤ 4096 := by
  unfold putMsg at h
  split at h
  · rename_i hc
    split at h
    · simp only [Prod.mk.injEq] at h; exact absurd h.2 (by decide)
    · rename_i hl
      simp only [Prod.mk.injEq, and_true] at h
      exact ⟨hc, h.symm, by omega⟩
  · simp only [Prod.mk.injEq] at h; exact absurd h.2 (by decide)
theorem rMsg0_fwd {m : Msg} (hm : msgOK m) (post : List UInt8) (hl : (encMsg m ++ post).length < 2 ^ 64) : rMsg0 (encMsg m ++ post) ⟨0, 0⟩ = (m, ⟨(encMsg m).length, 0⟩) :=
  (good_msg (encMsg m ++ post) hl).fwd hm (Bs.of (encMsg m) post)

theorem get_put {m : Msg} {a : Str} (h : putMsg m = (a, 0)) : getMsg a = (m, 0) := by
  obtain ⟨hc, rfl, hl⟩ := putMsg_ok h
  have hr := rMsg0_fwd (checkMsg_OK hc) [] (by rw [List.append_nil]; omega)
  rw [List.append_nil] at hr
  have hs : ¬ 4096 < (⟨(encMsg m).toArray⟩ : Str).size := by rw [mk_size]; omega
  unfold getMsg
  rw [if_neg hs]
  show (let x := rMsg (encMsg m) ⟨0, 0⟩; let e := if checkMsg x.1 then x.2 else x.2.fail 1; if e.e = 0 then (x.1, 0) else (Msg.none, e.e)) = _
  rw [rMsg_eq, hr, rEnd_at]
  simp only [hc, if_true]
theorem get_put_more {m : Msg} {a : Str} (h : putMsg m = (a, 0)) : (getMsg (a ++ ⟨#[0]⟩)).2 = 6 ∨ ((getMsg (a ++ ⟨#[0]⟩)).2 = 2 ∧ 4096 ≤ a.size) := by
  obtain ⟨hc, rfl, hl⟩ := putMsg_ok h
  have hd : ((⟨(encMsg m).toArray⟩ : Str) ++ ⟨#[0]⟩).data.toList = encMsg m ++ [0] := by simp [ByteArray.data_append]
  have hz : ((⟨(encMsg m).toArray⟩ : Str) ++ ⟨#[0]⟩).size = (encMsg m).length + 1 := by rw [← str_len, hd]; simp
  by_cases hb : (encMsg m).length = 4096
  · right
    refine ⟨?_, by rw [mk_size]; omega⟩
    unfold getMsg
    rw [if_pos (by omega)]
  · left
    have hr := rMsg0_fwd (checkMsg_OK hc) [0] (by simp; omega)
    have he : rEnd (encMsg m ++ [0]) ⟨(encMsg m).length, 0⟩ = ⟨(encMsg m).length, 6⟩ := by
      unfold rEnd; rw [if_pos (by simp), RS.fail_pos rfl]
    unfold getMsg
    rw [if_neg (by omega), hd]
    show (let x := rMsg (encMsg m ++ [0]) ⟨0, 0⟩; let e := if checkMsg x.1 then x.2 else x.2.fail 1; if e.e = 0 then (x.1, 0) else (Msg.none, e.e)).2 = _
    rw [rMsg_eq, hr, he]
    simp only [hc, if_true]
    rfl
theorem getMsg_eq (s : Str) : ∃ m e, getMsg s = if e = 0 then (m, 0) else (Msg.none, e) := by
  by_cases hs : 4096 < s.size
  · exact ⟨Msg.none, 2, by unfold getMsg; rw [if_pos hs]; rfl⟩
  · exact ⟨_, _, by unfold getMsg; rw [if_neg hs]⟩
theorem get_none {s : Str} (h : (getMsg s).2 ≠ 0) : (getMsg s).1 = Msg.none := by
  obtain ⟨m, e, he⟩ := getMsg_eq s
  rw [he] at h ⊢
  by_cases h0 : e = 0
  · rw [if_pos h0] at h; exact absurd rfl h
  · rw [if_neg h0]
theorem rMsg0_ok {b : List UInt8} {s : RS} (h : s.ok b) : (rMsg0 b s).2.ok b := by
  have h1 := (rNum_ok h).1
  have h2 := (rNum_ok h1).1
  have h3 := (rNum_ok h2).1
  have h4 := (rNum_ok h3).1
  have h5 := (rNum_ok h4).1
  have h6 := rList_ok (one := rMut b) (fun s hs => rMut_ok hs) h5
  simp only [rMsg0, mapR, seqR]
  exact rList_ok (one := rText b) (fun s hs => rText_ok hs) h6
theorem put_get {s : Str} (h : (getMsg s).2 = 0) : putMsg (getMsg s).1 = (s, 0) ∧ checkMsg (getMsg s).1 = true := by
  obtain ⟨m, r, hr⟩ : ∃ m r, rMsg0 s.data.toList ⟨0, 0⟩ = (m, r) := ⟨_, _, rfl⟩
  have hro : r.ok s.data.toList := by have := rMsg0_ok (b := s.data.toList) (s := ⟨0, 0⟩) ⟨Nat.zero_le _, by show (0:Nat) < 16; decide⟩; rw [hr] at this; exact this
  have hg : getMsg s = if 4096 < s.size then (Msg.none, 2) else (if (if checkMsg m then rEnd s.data.toList r else (rEnd s.data.toList r).fail 1).e = 0 then (m, 0) else (Msg.none, (if checkMsg m then rEnd s.data.toList r else (rEnd s.data.toList r).fail 1).e)) := by
    unfold getMsg; simp only [rMsg_eq, hr]
  rw [hg] at h ⊢
  by_cases hs : 4096 < s.size
  · rw [if_pos hs] at h; exact absurd h (by decide)
  rw [if_neg hs] at h ⊢
  by_cases hc : checkMsg m = true
  · simp only [hc, if_true] at h ⊢
    by_cases h0 : (rEnd s.data.toList r).e = 0
    · rw [if_pos h0] at h ⊢
      have e := (rEnd_zero hro.1).1 h0
      rw [e] at hr
      have k := (good_msg s.data.toList (by rw [str_len]; omega)).bwd (Nat.zero_le _) hr
      have hw := Bs.whole k.2
      refine ⟨?_, hc⟩
      unfold putMsg
      rw [if_pos hc, ← hw, if_neg (by rw [str_len]; omega), mk_str]
    · rw [if_neg h0] at h; exact absurd h h0
  · simp only [hc, Bool.false_eq_true, if_false] at h
    rw [if_neg (fail_ne (by decide))] at h
    exact absurd h (fail_ne (by decide))

def doneMsg : Msg := ⟨2, 0, 0, 0, [], [], 0⟩
theorem awake_put : putMsg doneMsg = (⟨#[1, 2, 0, 0, 0, 0, 0, 0]⟩, 0) := by decide +kernel
end Go.AI

/- Code points by arithmetic: plain Lean. -/
namespace Go.AI
open Go Go.Lib

def B (s : Str) (i : Nat) : Nat := (s.get! i).toNat
theorem B_lt (s : Str) (i : Nat) : B s i < 256 := (s.get! i).toNat_lt
theorem getD_B (s : Str) (i : Nat) : (s.data.getD i 0).toNat = B s i := by
  unfold B
  obtain ⟨d⟩ := s
  show (d.getD i 0).toNat = (d[i]!).toNat
  congr 1
def contL (s : Str) (i : Nat) : Nat → Bool
  | 0 => true
  | n + 1 => decide (B s i / 64 = 2) && contL s (i + 1) n
def contB (s : Str) (i n : Nat) : Bool := decide (i + n ≤ s.size) && contL s i n
def okU (s : Str) (i : Nat) : Bool := !decide (Utf8.decode s i = (65533, 1))
def rv (s : Str) (i c : Nat) : Nat → Nat
  | 0 => c
  | j + 1 => rv s i c j * 64 + B s (i + (j + 1)) % 64

theorem dec_eq (s : Str) (i : Nat) : Utf8.decode s i = decodeN (s.size - i) (B s i) (B s (i + 1)) (B s (i + 2)) (B s (i + 3)) := decode_at s i
theorem dec_one (s : Str) (i : Nat) (h : B s i < 128) : Utf8.decode s i = (B s i, 1) ∧ okU s i = true := by
  have e : Utf8.decode s i = (B s i, 1) := by rw [dec_eq]; unfold decodeN; rw [if_pos h]
  refine ⟨e, ?_⟩
  unfold okU; rw [e]
  simp only [Prod.mk.injEq]
  rw [decide_eq_false (by omega)]; rfl
theorem okU_bad {s : Str} {i : Nat} (h : Utf8.decode s i = (65533, 1)) : okU s i = false := by unfold okU; rw [decide_eq_true h]; rfl
theorem okU_ok {s : Str} {i a n : Nat} (h : Utf8.decode s i = (a, n)) (hn : n ≠ 1) : okU s i = true := by
  unfold okU; rw [h]
  simp only [Prod.mk.injEq]
  rw [decide_eq_false (by omega)]; rfl
theorem dec_bad (s : Str) (i : Nat) (h : 128 ≤ B s i) (h1 : ¬ (194 ≤ B s i ∧ B s i < 245)) : Utf8.decode s i = (65533, 1) := by
  have := B_lt s i
  have := B_lt s (i + 1)
  have := B_lt s (i + 2)
  have := B_lt s (i + 3)
  rw [dec_eq]; unfold decodeN
  repeat' split
  all_goals first | rfl | omega
theorem cont1 (s : Str) (i : Nat) : contB s (i + 1) 1 = true ↔ i + 2 ≤ s.size ∧ B s (i + 1) / 64 = 2 := by
  simp only [contB, contL, Bool.and_true, Bool.and_eq_true, decide_eq_true_eq]
theorem cont2 (s : Str) (i : Nat) : contB s (i + 1) 2 = true ↔ i + 3 ≤ s.size ∧ B s (i + 1) / 64 = 2 ∧ B s (i + 2) / 64 = 2 := by
  simp only [contB, contL, Bool.and_true, Bool.and_eq_true, decide_eq_true_eq]
theorem cont3 (s : Str) (i : Nat) : contB s (i + 1) 3 = true ↔ i + 4 ≤ s.size ∧ B s (i + 1) / 64 = 2 ∧ B s (i + 2) / 64 = 2 ∧ B s (i + 3) / 64 = 2 := by
  simp only [contB, contL, Bool.and_true, Bool.and_eq_true, decide_eq_true_eq]
theorem pair_eq {a b c d : Nat} (h : a = c) (h2 : b = d) : (a, b) = (c, d) := by rw [h, h2]
theorem dec_two (s : Str) (i : Nat) (h : 194 ≤ B s i ∧ B s i < 224) : Utf8.decode s i = if contB s (i + 1) 1 = true then (rv s i (B s i % 32) 1, 2) else (65533, 1) := by
  have := B_lt s (i + 1)
  have hc := cont1 s i
  generalize contB s (i + 1) 1 = C at hc ⊢
  have hr : rv s i (B s i % 32) 1 = B s i % 32 * 64 + B s (i + 1) % 64 := rfl
  generalize rv s i (B s i % 32) 1 = R at hr ⊢
  rw [dec_eq]; unfold decodeN
  cases C with
  | true =>
    replace hc := hc.1 rfl
    rw [if_pos rfl]
    repeat' split
    all_goals first | rfl | (exfalso; omega) | exact pair_eq (by omega) rfl
  | false =>
    replace hc : ¬ _ := fun h => Bool.false_ne_true (hc.2 h)
    rw [if_neg Bool.false_ne_true]
    repeat' split
    all_goals first | rfl | (exfalso; omega) | exact pair_eq (by omega) rfl
theorem dec_three (s : Str) (i : Nat) (h : 224 ≤ B s i ∧ B s i < 240) : Utf8.decode s i = if contB s (i + 1) 2 = true then (if rv s i (B s i % 16) 2 < 2048 ∨ (55296 ≤ rv s i (B s i % 16) 2 ∧ rv s i (B s i % 16) 2 < 57344) then (65533, 1) else (rv s i (B s i % 16) 2, 3)) else (65533, 1) := by
  have := B_lt s (i + 1)
  have := B_lt s (i + 2)
  have hc := cont2 s i
  generalize contB s (i + 1) 2 = C at hc ⊢
  have hr : rv s i (B s i % 16) 2 = (B s i % 16 * 64 + B s (i + 1) % 64) * 64 + B s (i + 2) % 64 := rfl
  generalize rv s i (B s i % 16) 2 = R at hr ⊢
  rw [dec_eq]; unfold decodeN
  cases C with
  | true =>
    replace hc := hc.1 rfl
    rw [if_pos rfl]
    repeat' split
    all_goals first | rfl | (exfalso; omega) | exact pair_eq (by omega) rfl
  | false =>
    replace hc : ¬ _ := fun h => Bool.false_ne_true (hc.2 h)
    rw [if_neg Bool.false_ne_true]
    repeat' split
    all_goals first | rfl | (exfalso; omega) | exact pair_eq (by omega) rfl
theorem dec_four (s : Str) (i : Nat) (h : 240 ≤ B s i ∧ B s i < 245) : Utf8.decode s i = if contB s (i + 1) 3 = true then (if rv s i (B s i % 8) 3 < 65536 ∨ 1114111 < rv s i (B s i % 8) 3 then (65533, 1) else (rv s i (B s i % 8) 3, 4)) else (65533, 1) := by
  have := B_lt s (i + 1)
  have := B_lt s (i + 2)
  have := B_lt s (i + 3)
  have hc := cont3 s i
  generalize contB s (i + 1) 3 = C at hc ⊢
  have hr : rv s i (B s i % 8) 3 = ((B s i % 8 * 64 + B s (i + 1) % 64) * 64 + B s (i + 2) % 64) * 64 + B s (i + 3) % 64 := rfl
  generalize rv s i (B s i % 8) 3 = R at hr ⊢
  rw [dec_eq]; unfold decodeN
  cases C with
  | true =>
    replace hc := hc.1 rfl
    rw [if_pos rfl]
    repeat' split
    all_goals first | rfl | (exfalso; omega) | exact pair_eq (by omega) rfl
  | false =>
    replace hc : ¬ _ := fun h => Bool.false_ne_true (hc.2 h)
    rw [if_neg Bool.false_ne_true]
    repeat' split
    all_goals first | rfl | (exfalso; omega) | exact pair_eq (by omega) rfl

/-! ### Bits -/
theorem and_192b {x : Nat} (h : x < 256) : ((IntKind.u8.wrap ((BitVec.ofInt IntKind.u8.bits (x : Int)) &&& (BitVec.ofInt IntKind.u8.bits 192)).toNat) != 128) = !decide (x / 64 = 2) := by
  have : ∀ y : Fin 256, ((IntKind.u8.wrap ((BitVec.ofInt IntKind.u8.bits (y.val : Int)) &&& (BitVec.ofInt IntKind.u8.bits 192)).toNat) != 128) = !decide (y.val / 64 = 2) := by decide +kernel
  exact this ⟨x, h⟩
theorem and_63 {x : Nat} (h : x < 256) : IntKind.u8.wrap ((BitVec.ofInt IntKind.u8.bits (x : Int)) &&& (BitVec.ofInt IntKind.u8.bits 63)).toNat = ((x % 64 : Nat) : Int) := by
  have : ∀ y : Fin 256, IntKind.u8.wrap ((BitVec.ofInt IntKind.u8.bits (y.val : Int)) &&& (BitVec.ofInt IntKind.u8.bits 63)).toNat = ((y.val % 64 : Nat) : Int) := by decide +kernel
  exact this ⟨x, h⟩
theorem and_31 {x : Nat} (h : x < 256) : IntKind.i32.wrap ((BitVec.ofInt IntKind.i32.bits (x : Int)) &&& (BitVec.ofInt IntKind.i32.bits 31)).toNat = ((x % 32 : Nat) : Int) := by
  have : ∀ y : Fin 256, IntKind.i32.wrap ((BitVec.ofInt IntKind.i32.bits (y.val : Int)) &&& (BitVec.ofInt IntKind.i32.bits 31)).toNat = ((y.val % 32 : Nat) : Int) := by decide +kernel
  exact this ⟨x, h⟩
theorem and_15 {x : Nat} (h : x < 256) : IntKind.i32.wrap ((BitVec.ofInt IntKind.i32.bits (x : Int)) &&& (BitVec.ofInt IntKind.i32.bits 15)).toNat = ((x % 16 : Nat) : Int) := by
  have : ∀ y : Fin 256, IntKind.i32.wrap ((BitVec.ofInt IntKind.i32.bits (y.val : Int)) &&& (BitVec.ofInt IntKind.i32.bits 15)).toNat = ((y.val % 16 : Nat) : Int) := by decide +kernel
  exact this ⟨x, h⟩
theorem and_7 {x : Nat} (h : x < 256) : IntKind.i32.wrap ((BitVec.ofInt IntKind.i32.bits (x : Int)) &&& (BitVec.ofInt IntKind.i32.bits 7)).toNat = ((x % 8 : Nat) : Int) := by
  have : ∀ y : Fin 256, IntKind.i32.wrap ((BitVec.ofInt IntKind.i32.bits (y.val : Int)) &&& (BitVec.ofInt IntKind.i32.bits 7)).toNat = ((y.val % 8 : Nat) : Int) := by decide +kernel
  exact this ⟨x, h⟩
theorem wrapI32 {n : Int} (h0 : -2147483648 ≤ n) (h1 : n ≤ 2147483647) : IntKind.i32.wrap n = n := by
  rw [IntKind.wrap_i32]; omega
theorem or_i32 {v x : Nat} (hx : x < 64) (hv : v < 2 ^ 20) :
    IntKind.i32.wrap ((BitVec.ofInt IntKind.i32.bits (IntKind.i32.wrap ((v : Int) * 2 ^ (min (Int.toNat 6) IntKind.i32.bits)))) ||| (BitVec.ofInt IntKind.i32.bits (x : Int))).toNat = ((v * 64 + x : Nat) : Int) := by
  have hb : IntKind.i32.bits = 32 := rfl
  have h6 : (v : Int) * 2 ^ (min (Int.toNat 6) IntKind.i32.bits) = ((v * 64 : Nat) : Int) := by
    show (v : Int) * 2 ^ 6 = _
    omega
  have h7 : IntKind.i32.wrap ((v * 64 : Nat) : Int) = ((v * 64 : Nat) : Int) := wrapI32 (by omega) (by omega)
  rw [h6, h7, hb, BitVec.toNat_or, BitVec.ofInt_natCast, BitVec.ofInt_natCast, BitVec.toNat_ofNat, BitVec.toNat_ofNat, Nat.mod_eq_of_lt (by omega), Nat.mod_eq_of_lt (by omega : x < 2 ^ 32)]
  have : v * 64 ||| x = v * 64 + x := by
    have := Nat.two_pow_add_eq_or_of_lt (i := 6) (b := x) hx v
    rw [Nat.mul_comm v 64]
    exact this.symm
  rw [this]
  exact wrapI32 (by omega) (by omega)
end Go.AI
