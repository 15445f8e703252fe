/- The package pull: what it computes, as plain functions; laws of them. No program. -/
import Derived.Test.YtfnecdkfhackkaaMat6
set_option linter.unusedVariables false
set_option linter.unusedSimpArgs false
namespace Go.Proofs.Ytfnecdkfhackkaa

/-- A puller. want: the id that is wanted, whether it was asked for, and when. -/
structure PS where
  n : Nat
  me : Nat
  again : Int
  want : Option (Nat × Int × Bool × Int)
  sender : Nat
  last : Nat
  count : Int
structure PS.ok (x : PS) : Prop where
  n1 : 1 ≤ x.n
  n2 : x.n ≤ 64
  me : x.me < x.n
  a1 : 1 ≤ x.again
  a2 : x.again ≤ 1099511627776
  sender : x.sender < x.n
  last : x.last < x.n
  w : ∀ f s a t, x.want = some (f, s, a, t) → f ≤ 255 ∧ 0 ≤ t ∧ t ≤ 1099511627776
def wayN (n p : Nat) : List Nat := (List.range (n - 1)).map fun i => (p + (i + 1)) % n
def ringN (n p : Nat) : List Nat := wayN n p ++ [p]
def u64w (x : Int) : Int := IntKind.u64.wrap x
/-- What helpers are asked of: held, how many processes, rows, skip. -/
structure PE where
  held : List Int
  N : Nat
  rows : List Row
  skip : List Int
def badH (n me : Nat) (skip : List Int) (p : Int) : Bool := decide ((n : Int) ≤ p) || decide (p = (me : Int)) || skip.contains p
def helpersI (x : PS) (e : PE) (f s : Int) : List Int := (holdersM e.N e.rows f s).filter fun p => !badH x.n x.me e.skip p
def nextS (e : PE) (s : Nat) : Int := u64w (vat e.held s + 1)
def lacksI (x : PS) (e : PE) (f : Nat) (s : Int) : Bool := decide (f < x.n) && (decide (nextS e f = s) && decide (0 < (helpersI x e f s).length))
def chooseI (x : PS) (e : PE) : PS := match (ringN x.n x.sender).find? fun s => lacksI x e s (nextS e s) with
  | some s => { x with want := some (s, nextS e s, false, 0), sender := s }
  | none => x
def clearI (x : PS) (e : PE) : PS := match x.want with
  | some (f, s, _, _) => if lacksI x e f s then x else { x with want := none }
  | none => x
def settleI (x : PS) (e : PE) : PS := if (clearI x e).want = none then chooseI (clearI x e) e else clearI x e
def pickI (x : PS) (h : List Int) : Nat := match (ringN x.n x.last).find? fun (p : Nat) => h.contains (p : Int) with
  | some p => p
  | none => x.last
def nowI (t : Int) : Int := max 0 (min t 1099511627776)
/-- Next: the puller, the id, whom to ask, whether. -/
def nextI (x : PS) (e : PE) (now : Int) : PS × (Int × Int) × Int × Bool := match (settleI x e).want with
  | none => (settleI x e, (0, 0), -1, false)
  | some (f, s, a, t) => if a = true ∧ nowI now - t < x.again then (settleI x e, (0, 0), -1, false) else
    (({ settleI x e with want := some (f, s, true, nowI now), count := u64w (x.count + 1), last := pickI (settleI x e) (helpersI x e f s) } : PS), (f, s), (pickI (settleI x e) (helpersI x e f s) : Nat), true)

theorem wayN_lt {n p : Nat} (hn : 0 < n) : ∀ q ∈ wayN n p, q < n := by
  intro q hq
  simp only [wayN, List.mem_map, List.mem_range] at hq
  obtain ⟨i, _, rfl⟩ := hq
  exact Nat.mod_lt _ hn
theorem ringN_lt {n p : Nat} (hp : p < n) : ∀ q ∈ ringN n p, q < n := by
  intro q hq
  rcases List.mem_append.1 hq with h | h
  · exact wayN_lt (by omega) q h
  · rw [List.mem_singleton.1 h]; exact hp
theorem ringN_all {n p q : Nat} (hp : p < n) (hq : q < n) : q ∈ ringN n p := by
  by_cases h : q = p
  · subst h; simp [ringN]
  · refine List.mem_append_left _ ?_
    simp only [wayN, List.mem_map, List.mem_range]
    rcases Nat.lt_or_ge p q with hlt | hge
    · exact ⟨q - p - 1, by omega, by rw [show p + (q - p - 1 + 1) = q by omega]; exact Nat.mod_eq_of_lt hq⟩
    · refine ⟨n - p + q - 1, by omega, ?_⟩
      rw [show p + (n - p + q - 1 + 1) = q + n by omega, Nat.add_mod_right]
      exact Nat.mod_eq_of_lt hq
theorem ringN_len {n p : Nat} (hn : 0 < n) : (ringN n p).length = n := by simp [ringN, wayN]; omega
theorem chooseI_eq (x : PS) (e : PE) : (chooseI x e).n = x.n ∧ (chooseI x e).me = x.me ∧ (chooseI x e).again = x.again ∧ (chooseI x e).last = x.last ∧ (chooseI x e).count = x.count := by
  unfold chooseI; split <;> exact ⟨rfl, rfl, rfl, rfl, rfl⟩
theorem clearI_eq (x : PS) (e : PE) : (clearI x e).n = x.n ∧ (clearI x e).me = x.me ∧ (clearI x e).again = x.again ∧ (clearI x e).last = x.last ∧ (clearI x e).count = x.count ∧ (clearI x e).sender = x.sender := by
  unfold clearI
  split
  · split <;> exact ⟨rfl, rfl, rfl, rfl, rfl, rfl⟩
  · exact ⟨rfl, rfl, rfl, rfl, rfl, rfl⟩
theorem settleI_eq (x : PS) (e : PE) : (settleI x e).n = x.n ∧ (settleI x e).me = x.me ∧ (settleI x e).again = x.again ∧ (settleI x e).last = x.last ∧ (settleI x e).count = x.count := by
  have h1 := clearI_eq x e
  have h2 := chooseI_eq (clearI x e) e
  unfold settleI
  split
  · exact ⟨h2.1.trans h1.1, h2.2.1.trans h1.2.1, h2.2.2.1.trans h1.2.2.1, h2.2.2.2.1.trans h1.2.2.2.1, h2.2.2.2.2.trans h1.2.2.2.2.1⟩
  · exact ⟨h1.1, h1.2.1, h1.2.2.1, h1.2.2.2.1, h1.2.2.2.2.1⟩
theorem helpersI_eq {x y : PS} (e : PE) (f s : Int) (h1 : y.n = x.n) (h2 : y.me = x.me) : helpersI y e f s = helpersI x e f s := by unfold helpersI; rw [h1, h2]
theorem lacksI_eq {x y : PS} (e : PE) (f : Nat) (s : Int) (h1 : y.n = x.n) (h2 : y.me = x.me) : lacksI y e f s = lacksI x e f s := by unfold lacksI; rw [helpersI_eq e f s h1 h2, h1]
/-- What is wanted behind the choice, lacks. -/
theorem settleI_lacks {x : PS} {e : PE} {f : Nat} {s : Int} {a : Bool} {t : Int} (h : (settleI x e).want = some (f, s, a, t)) : lacksI x e f s = true := by
  have h1 := clearI_eq x e
  unfold settleI at h
  split at h
  · rename_i hc
    unfold chooseI at h
    split at h
    · rename_i q hq
      have h2 := List.find?_some hq
      simp only [Option.some.injEq, Prod.mk.injEq] at h
      obtain ⟨rfl, rfl, _⟩ := h
      rw [lacksI_eq e _ _ h1.1 h1.2.1] at h2
      exact h2
    · rw [hc] at h; cases h
  · unfold clearI at h
    split at h
    · rename_i f' s' a' t' hw
      split at h
      · rename_i hl
        rw [hw] at h
        simp only [Option.some.injEq, Prod.mk.injEq] at h
        obtain ⟨rfl, rfl, _⟩ := h
        exact hl
      · cases h
    · rename_i hw; rw [hw] at h; cases h
theorem holdersM_mem {n : Nat} {rows : List Row} {f s p : Int} (h : p ∈ holdersM n rows f s) : ∃ i : Nat, p = i ∧ i < n ∧ holdsP rows f.toNat s i = true := by
  unfold holdersM at h
  split at h
  · simp only [holdK, List.mem_map, List.mem_filter, List.mem_range] at h
    obtain ⟨i, ⟨h1, h2⟩, rfl⟩ := h
    exact ⟨i, rfl, h1, h2⟩
  · cases h
theorem helpersI_mem {x : PS} {e : PE} {f s p : Int} (h : p ∈ helpersI x e f s) : p ∈ holdersM e.N e.rows f s ∧ p < x.n ∧ p ≠ x.me ∧ p ∉ e.skip ∧ ∃ i : Nat, p = i ∧ i < x.n := by
  unfold helpersI at h
  rw [List.mem_filter] at h
  obtain ⟨h1, h2⟩ := h
  simp only [badH, Bool.not_or, Bool.and_eq_true, Bool.not_eq_true', decide_eq_false_iff_not] at h2
  obtain ⟨i, rfl, hi, _⟩ := holdersM_mem h1
  refine ⟨h1, by omega, h2.1.2, ?_, i, rfl, by omega⟩
  have h3 := h2.2
  intro hm
  rw [List.contains_iff_mem.2 hm] at h3
  cases h3
theorem pickI_mem {x : PS} (hx : x.ok) {h : List Int} (h0 : 0 < h.length) (hm : ∀ p ∈ h, ∃ i : Nat, p = i ∧ i < x.n) : (pickI x h : Int) ∈ h ∧ pickI x h < x.n := by
  unfold pickI
  split
  · rename_i p hp
    exact ⟨by simpa using List.find?_some hp, ringN_lt hx.last p (List.mem_of_find?_eq_some hp)⟩
  · rename_i hp
    exfalso
    cases h with
    | nil => simp at h0
    | cons p l =>
      obtain ⟨i, rfl, hi⟩ := hm p (by simp)
      have := List.find?_eq_none.1 hp i (ringN_all hx.last hi)
      simp at this
theorem clearI_ok {x : PS} (hx : x.ok) (e : PE) : (clearI x e).ok := by
  unfold clearI
  split
  · split
    · exact hx
    · exact ⟨hx.n1, hx.n2, hx.me, hx.a1, hx.a2, hx.sender, hx.last, fun _ _ _ _ h => by cases h⟩
  · exact hx
theorem chooseI_ok {x : PS} (hx : x.ok) (e : PE) : (chooseI x e).ok := by
  unfold chooseI
  split
  · rename_i q hq
    have hlt := ringN_lt hx.sender q (List.mem_of_find?_eq_some hq)
    refine ⟨hx.n1, hx.n2, hx.me, hx.a1, hx.a2, hlt, hx.last, fun f s a t h => ?_⟩
    simp only [Option.some.injEq, Prod.mk.injEq] at h
    obtain ⟨rfl, _, _, rfl⟩ := h
    have := hx.n2
    exact ⟨by omega, by omega, by omega⟩
  · exact hx
theorem settleI_ok {x : PS} (hx : x.ok) (e : PE) : (settleI x e).ok := by
  unfold settleI
  split
  · exact chooseI_ok (clearI_ok hx e) e
  · exact clearI_ok hx e
theorem nowI_in (t : Int) : 0 ≤ nowI t ∧ nowI t ≤ 1099511627776 := by unfold nowI; omega
theorem lacksI_help {x : PS} {e : PE} {f : Nat} {s : Int} (h : lacksI x e f s = true) : f < x.n ∧ nextS e f = s ∧ 0 < (helpersI x e f s).length := by
  simp only [lacksI, Bool.and_eq_true, decide_eq_true_eq] at h
  exact ⟨h.1, h.2.1, h.2.2⟩
theorem nextI_ok {x : PS} (hx : x.ok) (e : PE) (now : Int) : (nextI x e now).1.ok := by
  have hs := settleI_ok hx e
  have he := settleI_eq x e
  unfold nextI
  split
  · exact hs
  · rename_i f s a t hw
    split
    · exact hs
    · have hl := lacksI_help (settleI_lacks hw)
      have hp := (pickI_mem hs hl.2.2 (fun p hp => by
        obtain ⟨_, _, _, _, i, h1, h2⟩ := helpersI_mem hp
        exact ⟨i, h1, by rw [he.1]; exact h2⟩)).2
      have hn := nowI_in now
      exact ⟨hs.n1, hs.n2, hs.me, hs.a1, hs.a2, hs.sender, hp, fun f' s' a' t' h => by
        simp only [Option.some.injEq, Prod.mk.injEq] at h
        obtain ⟨rfl, _, _, rfl⟩ := h
        exact ⟨(hs.w _ _ _ _ hw).1, hn.1, hn.2⟩⟩
/-- Who is asked. -/
theorem nextI_asks {x : PS} (hx : x.ok) (e : PE) (now : Int) {id : Int × Int} {p : Int} {y : PS} (h : nextI x e now = (y, id, p, true)) :
    ∃ f : Nat, id.1 = f ∧ f < x.n ∧ id.2 = nextS e f ∧ p ∈ holdersM e.N e.rows id.1 id.2 ∧ p ≠ x.me ∧ p ∉ e.skip ∧ p = y.last := by
  have he := settleI_eq x e
  unfold nextI at h
  split at h
  · simp at h
  · rename_i f s a t hw
    split at h
    · simp at h
    · have hl := lacksI_help (settleI_lacks hw)
      have hp := (pickI_mem (settleI_ok hx e) hl.2.2 (fun p hp => by
        obtain ⟨_, _, _, _, i, h1, h2⟩ := helpersI_mem hp
        exact ⟨i, h1, by rw [he.1]; exact h2⟩)).1
      simp only [Prod.mk.injEq, and_true] at h
      obtain ⟨rfl, rfl, rfl⟩ := h
      obtain ⟨h1, _, h2, h3, _⟩ := helpersI_mem hp
      exact ⟨f, rfl, hl.1, hl.2.1.symm, h1, h2, h3, rfl⟩
end Go.Proofs.Ytfnecdkfhackkaa
