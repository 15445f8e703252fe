/- PullTurns: what Next does there. No program. -/
import Derived.Test.YtfnecdkfhackkaaPt1
set_option linter.unusedVariables false
set_option linter.unusedSimpArgs false
namespace Go.Proofs.Ytfnecdkfhackkaa

def hrow (n : Nat) : Row := tellRow (zrow n) 0 [] [1]
def rowsT (t : Nat → Bool) (n q : Nat) : List Row := (List.range n).map fun j => if (decide (j < q) && t j) = true then hrow n else zrow n
theorem rowsT_get (t : Nat → Bool) (n q j : Nat) : (rowsT t n q)[j]? = if j < n then some (if (decide (j < q) && t j) = true then hrow n else zrow n) else none := by
  unfold rowsT
  rw [List.getElem?_map]
  by_cases h : j < n
  · rw [List.getElem?_range h, if_pos h]; rfl
  · rw [List.getElem?_eq_none (by simpa using h), if_neg h]; rfl
theorem rowsT_zero (t : Nat → Bool) (n : Nat) : rowsT t n 0 = List.replicate n (zrow n) := by
  apply List.ext_getElem?
  intro j
  rw [rowsT_get, List.getElem?_replicate]
  simp
theorem rowsT_skip {t : Nat → Bool} {n q : Nat} (h : t q = false) : rowsT t n (q + 1) = rowsT t n q := by
  apply List.ext_getElem?
  intro j
  rw [rowsT_get, rowsT_get]
  by_cases hj : j = q
  · subst hj; simp [h]
  · rw [show decide (j < q + 1) = decide (j < q) by simp; omega]
theorem rowsT_tell {t : Nat → Bool} {n q : Nat} (hq : q < n) (h : t q = true) : tell (rowsT t n q) (q : Int) 0 [] [1] = rowsT t n (q + 1) := by
  unfold tell
  rw [if_neg (by omega), Int.toNat_natCast]
  have hg := rowsT_get t n q q
  rw [if_pos hq] at hg
  simp only [Nat.lt_irrefl, decide_false, Bool.false_and] at hg
  rw [hg]
  apply List.ext_getElem?
  intro j
  simp only
  rw [List.getElem?_set, rowsT_get, rowsT_get]
  by_cases hj : q = j
  · subst hj
    have hl : (rowsT t n q).length = n := by simp [rowsT]
    simp [h, hq, hl, hrow]
  · rw [if_neg hj, show decide (j < q + 1) = decide (j < q) by simp; omega]
theorem vat_zero (n f : Nat) : vat (List.replicate n 0) f = 0 := by
  unfold vat
  rw [List.getD_eq_getElem?_getD, List.getElem?_replicate]
  split <;> rfl
theorem vat_hrow {n f : Nat} (h : f < n) : vat (hrow n).held f = if f = 0 then 1 else 0 := by
  show vat (vrise (List.replicate n 0) [1]) f = _
  rw [vat_vrise _ _ _ (by simpa using h), vat_zero]
  cases f with
  | zero => rfl
  | succ f => simp [vat]
theorem holdsT {t : Nat → Bool} {n i f : Nat} {s : Int} (hi : i < n) (hf : f < n) (hs : 1 ≤ s) : holdsP (rowsT t n n) f s i = (t i && decide (f = 0) && decide (s = 1)) := by
  unfold holdsP
  rw [rowsT_get, if_pos hi]
  simp only [hi, decide_true, Bool.true_and]
  cases ht : t i with
  | true =>
    have hg : (hrow n).gone = false := rfl
    simp only [if_true, hg, vat_hrow hf]
    by_cases h0 : f = 0
    · simp only [h0, if_true]; simp; omega
    · simp only [h0, if_false]; simp; omega
  | false =>
    simp only [Bool.false_eq_true, if_false, Bool.false_and]
    show (!(zrow n).gone && decide (s ≤ vat (zrow n).held f)) = false
    rw [show (zrow n).held = List.replicate n 0 from rfl, vat_zero]
    simp; intro _; omega
section
variable {t : Nat → Bool} {n M : Nat} {x : PS} {held : List Int}
/-- The state of affairs. -/
structure TC (t : Nat → Bool) (n M : Nat) (x : PS) : Prop where
  n1 : 2 ≤ n
  n2 : n ≤ 64
  tM : t M = false
  xn : x.n = n
  xm : x.me = M
theorem helpT (c : TC t n M x) {f : Nat} {s : Int} (hf : f < n) (hs : 1 ≤ s) (hs2 : s ≤ 2) (i : Nat) : (helpersI x ⟨held, n, rowsT t n n, []⟩ f s).contains (i : Int) = (decide (i < n) && t i && decide (f = 0) && decide (s = 1)) := by
  have hn := c.n2
  rw [Bool.eq_iff_iff, List.contains_iff_mem]
  unfold helpersI holdersM
  have hm : mayI (f : Int) s n = true := by simp [mayI]; omega
  rw [List.mem_filter]
  simp only [hm, if_true, holdK, List.mem_map, List.mem_filter, List.mem_range, Int.toNat_natCast]
  constructor
  · rintro ⟨⟨j, ⟨h1, h2⟩, h3⟩, h4⟩
    have : j = i := Int.ofNat.inj h3
    subst this
    rw [holdsT h1 hf hs] at h2
    simp only [Bool.and_eq_true, decide_eq_true_eq] at h2 ⊢
    exact ⟨⟨⟨h1, h2.1.1⟩, h2.1.2⟩, h2.2⟩
  · intro h
    simp only [Bool.and_eq_true, decide_eq_true_eq] at h
    obtain ⟨⟨⟨h1, h2⟩, h3⟩, h4⟩ := h
    refine ⟨⟨i, ⟨h1, by rw [holdsT h1 hf hs]; simp [h2, h3, h4]⟩, rfl⟩, ?_⟩
    have hne : i ≠ M := fun e => by rw [e, c.tM] at h2; cases h2
    simp only [badH, c.xn, c.xm, List.contains_nil, Bool.or_false, Bool.not_or, Bool.and_eq_true, Bool.not_eq_true', decide_eq_false_iff_not]
    exact ⟨by omega, fun e => hne (Int.ofNat.inj e)⟩
theorem helpT_nil (c : TC t n M x) {f : Nat} {s : Int} (hf : f < n) (hs : 1 ≤ s) (hs2 : s ≤ 2) (h : f = 0 → s = 1 → False) : helpersI x ⟨held, n, rowsT t n n, []⟩ f s = [] := by
  cases hh : helpersI x ⟨held, n, rowsT t n n, []⟩ f s with
  | nil => rfl
  | cons p l =>
    exfalso
    obtain ⟨_, _, _, _, i, rfl, hi⟩ := helpersI_mem (x := x) (e := ⟨held, n, rowsT t n n, []⟩) (f := f) (s := s) (p := p) (by rw [hh]; simp)
    have := helpT (held := held) c hf hs hs2 i
    rw [hh] at this
    simp only [List.contains_cons, beq_self_eq_true, Bool.true_or] at this
    have h2 := this.symm
    simp only [Bool.and_eq_true, decide_eq_true_eq] at h2
    exact h h2.1.2 h2.2
theorem nextS_nil (R : List Row) (f : Nat) : nextS ⟨[], n, R, []⟩ f = 1 := by
  have : vat [] f = 0 := rfl
  unfold nextS; rw [this]; decide
theorem nextS_one (R : List Row) (f : Nat) : nextS ⟨[1], n, R, []⟩ f = if f = 0 then 2 else 1 := by
  unfold nextS
  cases f with
  | zero => show u64w (1 + 1) = _; decide
  | succ f => have : vat [1] (f + 1) = 0 := rfl
              simp only; rw [this]; simp; decide
/-- Where 1 is held, nothing is wanted. -/
theorem next_done (c : TC t n M x) (hx : x.ok) (hw : ∀ f s a u, x.want = some (f, s, a, u) → f = 0 ∧ s = 1) (now : Int) : ∃ y, nextI x ⟨[1], n, rowsT t n n, []⟩ now = (y, (0, 0), -1, false) ∧ y.count = x.count := by
  have hn := c.n1
  have hlk : ∀ y : PS, y.n = x.n → y.me = x.me → (ringN y.n y.sender).find? (fun s => lacksI y ⟨[1], n, rowsT t n n, []⟩ s (nextS ⟨[1], n, rowsT t n n, []⟩ s)) = none := fun y h1 h2 => by
    refine find_miss fun j s hj => ?_
    rw [lacksI_eq (x := x) _ _ _ h1 h2]
    unfold lacksI
    by_cases hs : s < n
    · rw [helpT_nil c hs (by rw [nextS_one]; split <;> omega) (by rw [nextS_one]; split <;> omega) (fun h => by subst h; rw [nextS_one]; simp)]
      simp
    · rw [c.xn]; simp [hs]
  cases hw0 : x.want with
  | none =>
    refine ⟨x, nextI_no ?_ hw0, rfl⟩
    rw [settleI_none hw0]; unfold chooseI; rw [hlk x rfl rfl]
  | some z =>
    obtain ⟨f, s, a, u⟩ := z
    obtain ⟨rfl, rfl⟩ := hw _ _ _ _ hw0
    have hl : lacksI x ⟨[1], n, rowsT t n n, []⟩ 0 1 = false := by
      unfold lacksI
      rw [nextS_one]; simp
    refine ⟨{ x with want := none }, nextI_no ?_ rfl, rfl⟩
    rw [settleI_lack_no hw0 hl]; unfold chooseI
    rw [hlk { x with want := none } rfl rfl]
def TP (t : Nat → Bool) (n : Nat) (q : Nat) : Bool := decide (q < n) && t q
/-- Behind i steps. -/
structure TS (t : Nat → Bool) (n M : Nat) (ag : Nat) (x : PS) (i : Nat) : Prop where
  c : TC t n M x
  ok : x.ok
  ag1 : x.again = ag
  ag2 : ag ≤ 1000
  ct : x.count = i
  i2 : i ≤ 40
  w : (i = 0 ∧ x.want = none ∧ x.sender = n - 1) ∨ (0 < i ∧ x.want = some (0, 1, true, (((i - 1) * ag : Nat) : Int)))
theorem TS.step {ag i q : Nat} (h : TS t n M ag x i) (hi : i < 40) (hq : (ringN n x.last).find? (TP t n) = some q) :
    ∃ y, nextI x ⟨[], n, rowsT t n n, []⟩ ((i * ag : Nat) : Int) = (y, (0, 1), (q : Int), true) ∧ TS t n M ag y (i + 1) ∧ y.last = q ∧ nextI y ⟨[], n, rowsT t n n, []⟩ (((i * ag : Nat) : Int) + ag - 1) = (y, (0, 0), -1, false) := by
  have hn := h.c.n1
  have hn2 := h.c.n2
  obtain ⟨e, he⟩ : ∃ e : PE, e = ⟨[], n, rowsT t n n, []⟩ := ⟨_, rfl⟩
  have hP : ∀ z : PS, z.n = x.n → z.me = x.me → (fun (p : Nat) => (helpersI z e (0 : Nat) 1).contains (p : Int)) = TP t n := fun z h1 h2 => by
    funext p
    rw [helpersI_eq (x := x) e _ _ h1 h2, he, helpT h.c (by omega) (by omega) (by omega)]
    simp [TP]
  have hqn : TP t n q = true := by have := List.find?_some hq; exact this
  have hlen : ∀ z : PS, z.n = x.n → z.me = x.me → 0 < (helpersI z e (0 : Nat) 1).length := fun z h1 h2 => by
    have := congrFun (hP z h1 h2) q
    simp only [hqn] at this
    cases hh : helpersI z e (0 : Nat) 1 with
    | nil => rw [hh] at this; cases this
    | cons a l => simp
  have hlk : ∀ z : PS, z.n = x.n → z.me = x.me → lacksI z e 0 1 = true := fun z h1 h2 => by
    unfold lacksI
    rw [h1, h.c.xn]
    have e1 : nextS e 0 = 1 := by rw [he]; exact nextS_nil _ _
    rw [e1]
    simp only [decide_true, Bool.true_and, Bool.and_eq_true, decide_eq_true_eq]
    exact ⟨by omega, hlen z h1 h2⟩
  have hb : i * ag ≤ 39 * 1000 := Nat.mul_le_mul (by omega) h.ag2
  have hnow : nowI ((i * ag : Nat) : Int) = ((i * ag : Nat) : Int) := by unfold nowI; omega
  have hcount : u64w (x.count + 1) = ((i + 1 : Nat) : Int) := by
    rw [h.ct, u64w, IntKind.wrap_u64]; omega
  have hpick : ∀ z : PS, z.n = x.n → z.last = x.last → pickI z (helpersI x e (0 : Nat) 1) = q := fun z h1 h2 => by
    unfold pickI
    rw [h1, h2, h.c.xn, hP x rfl rfl, hq]
  -- the state behind the step
  have key : ∀ y0 : PS, y0.n = x.n → y0.me = x.me → y0.again = x.again → y0.last = x.last → y0.sender < n → ∀ a u, settleI x e = y0 → y0.want = some (0, 1, a, u) → ¬ (a = true ∧ nowI ((i * ag : Nat) : Int) - u < x.again) →
      ∃ y, nextI x e ((i * ag : Nat) : Int) = (y, (0, 1), (q : Int), true) ∧ TS t n M ag y (i + 1) ∧ y.last = q ∧ nextI y e (((i * ag : Nat) : Int) + ag - 1) = (y, (0, 0), -1, false) := by
    intro y0 e1 e2 e3 e4 e5 a u e6 e7 e8
    have hnx := nextI_of (now := ((i * ag : Nat) : Int)) e6 e7 e8
    have hok := nextI_ok h.ok e ((i * ag : Nat) : Int)
    rw [hpick y0 e1 e4, hnow, hcount] at hnx
    obtain ⟨y, hy⟩ : ∃ y : PS, y = { y0 with want := some (0, 1, true, ((i * ag : Nat) : Int)), count := ((i + 1 : Nat) : Int), last := q } := ⟨_, rfl⟩
    rw [← hy] at hnx
    rw [hnx] at hok
    have hyn : y.n = x.n := by rw [hy]; exact e1
    have hym : y.me = x.me := by rw [hy]; exact e2
    have hyw : y.want = some (0, 1, true, ((i * ag : Nat) : Int)) := by rw [hy]
    have hya : y.again = ag := by rw [hy]; exact e3.trans h.ag1
    refine ⟨y, hnx, ⟨⟨hn, hn2, h.c.tM, hyn.trans h.c.xn, hym.trans h.c.xm⟩, hok, hya, h.ag2, by rw [hy], by omega, .inr ⟨by omega, by rw [hyw]; simp⟩⟩, by rw [hy], ?_⟩
    refine nextI_soon (settleI_lack hyw (hlk y hyn hym)) hyw ⟨rfl, ?_⟩
    have := h.ag2
    rw [hya]
    have ha1 : 1 ≤ y.again := hok.a1
    unfold nowI; omega
  rw [← he]
  rcases h.w with ⟨hi0, hw, hs⟩ | ⟨hi0, hw⟩
  · refine key { x with want := some (0, 1, false, 0), sender := 0 } rfl rfl rfl rfl (by simp only; omega) false 0 ?_ rfl (by simp)
    rw [settleI_none hw]
    unfold chooseI
    have hf : (ringN x.n x.sender).find? (fun s => lacksI x e s (nextS e s)) = some 0 := by
      refine find_hit (k := 0) ?_ (by have e1 : nextS e 0 = 1 := by rw [he]; exact nextS_nil _ _
                                      rw [e1]; exact hlk x rfl rfl) (fun j _ h => absurd h (Nat.not_lt_zero _))
      rw [h.c.xn, hs, ringN_get (by omega) (by omega), show n - 1 + (0 + 1) = n by omega, Nat.mod_self]
    rw [hf]
    simp only
    rw [show nextS e 0 = 1 by rw [he]; exact nextS_nil _ _]
  · refine key x rfl rfl rfl rfl (by have := h.ok.sender; rw [h.c.xn] at this; exact this) true _ (settleI_lack hw (hlk x rfl rfl)) hw ?_
    rw [hnow, h.ag1]
    have hmul : i * ag = (i - 1) * ag + ag := by
      obtain ⟨m, rfl⟩ : ∃ m, i = m + 1 := ⟨i - 1, by omega⟩
      rw [Nat.add_sub_cancel, Nat.add_mul, Nat.one_mul]
    omega
end
end Go.Proofs.Ytfnecdkfhackkaa
