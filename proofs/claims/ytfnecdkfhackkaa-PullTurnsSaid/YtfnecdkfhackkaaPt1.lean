/- PullTurns: the plain law. No program. -/
import Derived.Test.YtfnecdkfhackkaaPg13
set_option linter.unusedVariables false
set_option linter.unusedSimpArgs false
namespace Go.Proofs.Ytfnecdkfhackkaa

def bn (b : Bool) : Nat := if b then 1 else 0
/-- How many of the first m are so. -/
def cnt (u : Nat → Bool) : Nat → Nat
  | 0 => 0
  | m + 1 => cnt u m + bn (u m)
theorem cnt_shift (u : Nat → Bool) (m : Nat) : cnt (fun k => u (k + 1)) m + bn (u 0) = cnt u (m + 1) := by
  induction m with
  | zero => simp [cnt]
  | succ m ih => simp only [cnt] at ih ⊢; omega
theorem cnt_congr {u v : Nat → Bool} {m : Nat} (h : ∀ k, k < m → u k = v k) : cnt u m = cnt v m := by
  induction m with
  | zero => rfl
  | succ m ih => simp only [cnt]; rw [ih (fun k hk => h k (by omega)), h m (by omega)]
theorem cnt_rot (P : Nat → Bool) (n M : Nat) (hn : 0 < n) : cnt (fun k => P ((M + k) % n)) n = cnt P n := by
  induction M with
  | zero => exact cnt_congr fun k hk => by simp [Nat.mod_eq_of_lt hk]
  | succ M ih =>
    have h := cnt_shift (fun k => P ((M + k) % n)) n
    simp only [cnt] at h
    have e1 : (M + n) % n = (M + 0) % n := by simp
    rw [e1] at h
    rw [← ih, ← Nat.add_right_cancel h]
    exact cnt_congr fun k _ => by rw [show M + 1 + k = M + (k + 1) by omega]
theorem cnt_flat {u : Nat → Bool} {a b : Nat} (hab : a ≤ b) (h : ∀ k, a ≤ k → k < b → u k = false) : cnt u b = cnt u a := by
  induction b with
  | zero => have : a = 0 := by omega
            subst this; rfl
  | succ b ih =>
    by_cases hb : a ≤ b
    · simp only [cnt]; rw [ih hb (fun k h1 h2 => h k h1 (by omega)), h b hb (by omega)]; rfl
    · have : a = b + 1 := by omega
      subst this; rfl
theorem cnt_mono (u : Nat → Bool) {a b : Nat} (hab : a ≤ b) : cnt u a ≤ cnt u b := by
  induction b with
  | zero => have : a = 0 := by omega
            subst this; exact Nat.le_refl _
  | succ b ih =>
    by_cases hb : a ≤ b
    · have := ih hb; simp only [cnt]; omega
    · have : a = b + 1 := by omega
      subst this; exact Nat.le_refl _
/-- The least one from a on, below b, or none. -/
theorem least_from (u : Nat → Bool) (a b : Nat) : (∃ k, a ≤ k ∧ k < b ∧ u k = true ∧ ∀ j, a ≤ j → j < k → u j = false) ∨ ∀ k, a ≤ k → k < b → u k = false := by
  induction b with
  | zero => exact .inr fun k _ h => absurd h (Nat.not_lt_zero _)
  | succ b ih =>
    rcases ih with ⟨k, h1, h2, h3, h4⟩ | h
    · exact .inl ⟨k, h1, by omega, h3, h4⟩
    · by_cases hb : a ≤ b
      · cases hu : u b with
        | true => exact .inl ⟨b, hb, by omega, hu, fun j h1 h2 => h j h1 h2⟩
        | false =>
          refine .inr fun k h1 h2 => ?_
          rcases Nat.lt_or_ge k b with h3 | h3
          · exact h k h1 h3
          · rw [show k = b by omega]; exact hu
      · exact .inr fun k h1 h2 => by omega
theorem ringN_get {n p i : Nat} (hp : p < n) (hi : i < n) : (ringN n p)[i]? = some ((p + (i + 1)) % n) := by
  have hl : (wayN n p).length = n - 1 := by simp [wayN]
  unfold ringN
  by_cases h : i < n - 1
  · rw [List.getElem?_append_left (by omega), wayN_get h]
  · have : i = n - 1 := by omega
    subst this
    rw [List.getElem?_append_right (by omega), hl, Nat.sub_self, show n - 1 + 1 = n by omega, Nat.add_mod_right, Nat.mod_eq_of_lt hp]
    rfl
theorem ring_find {n M a k : Nat} {P : Nat → Bool} (hn : 0 < n) (h1 : a < k) (h2 : k ≤ a + n) (hk : P ((M + k) % n) = true) (hj : ∀ j, a < j → j < k → P ((M + j) % n) = false) : (ringN n ((M + a) % n)).find? P = some ((M + k) % n) := by
  have e : ∀ i, ((M + a) % n + (i + 1)) % n = (M + (a + i + 1)) % n := fun i => by rw [Nat.mod_add_mod]; congr 1; omega
  refine find_hit (k := k - a - 1) ?_ hk (fun j t hj1 hj2 => ?_)
  · rw [ringN_get (Nat.mod_lt _ hn) (by omega), e]; congr 3; omega
  · rw [ringN_get (Nat.mod_lt _ hn) (by omega), e] at hj2
    injection hj2 with hj2
    subst hj2
    exact hj _ (by omega) (by omega)
theorem mod_inj {n M a b : Nat} (ha : a < n) (hb : b < n) (h : (M + a) % n = (M + b) % n) : a = b := by
  have h1 := Nat.mod_add_div (M + a) n
  have h2 := Nat.mod_add_div (M + b) n
  rw [h] at h1
  rcases Nat.lt_trichotomy ((M + a) / n) ((M + b) / n) with h3 | h3 | h3
  · have : n * ((M + a) / n + 1) ≤ n * ((M + b) / n) := Nat.mul_le_mul_left n h3
    rw [Nat.mul_add] at this; omega
  · rw [h3] at h1; omega
  · have : n * ((M + b) / n + 1) ≤ n * ((M + a) / n) := Nat.mul_le_mul_left n h3
    rw [Nat.mul_add] at this; omega
/-- Behind i steps: last the one asked last, met how often each was asked. -/
def Turn (P : Nat → Bool) (n M many i last : Nat) (met : Nat → Nat) : Prop := ∃ r a, a < n ∧ (a = 0 ∨ P ((M + a) % n) = true) ∧ last = (M + a) % n ∧ i = r * many + cnt (fun k => P ((M + k) % n)) (a + 1) ∧
  ∀ k, k < n → P ((M + k) % n) = true → met ((M + k) % n) = r + if k ≤ a then 1 else 0
theorem Turn.start {P : Nat → Bool} {n M many : Nat} (hM : M < n) (h0 : P M = false) : Turn P n M many 0 M (fun _ => 0) := by
  have h0' : P ((M + 0) % n) = false := by rw [Nat.add_zero, Nat.mod_eq_of_lt hM]; exact h0
  refine ⟨0, 0, by omega, .inl rfl, by rw [Nat.add_zero, Nat.mod_eq_of_lt hM], ?_, fun k hk hp => ?_⟩
  · simp only [cnt, h0', bn]; simp
  · by_cases h : k ≤ 0
    · have : k = 0 := by omega
      subst this; rw [h0'] at hp; cases hp
    · simp [h]
theorem Turn.step {P : Nat → Bool} {n M many i last : Nat} {met : Nat → Nat} (hM : M < n) (h0 : P M = false) (hm : many = cnt P n) (hpos : 0 < many) (h : Turn P n M many i last met) :
    ∃ q, q < n ∧ P q = true ∧ (ringN n last).find? P = some q ∧ met q = i / many ∧ Turn P n M many (i + 1) q (fun x => if x = q then met x + 1 else met x) := by
  obtain ⟨r, a, ha, hga, rfl, hi, hmet⟩ := h
  have hn : 0 < n := by omega
  obtain ⟨g, hg⟩ : ∃ g : Nat → Bool, g = fun k => P ((M + k) % n) := ⟨_, rfl⟩
  have hgk : ∀ k, P ((M + k) % n) = g k := fun k => by rw [hg]
  have hg0 : g 0 = false := by rw [← hgk, Nat.add_zero, Nat.mod_eq_of_lt hM]; exact h0
  have hmg : many = cnt g n := by rw [hm, hg]; exact (cnt_rot P n M hn).symm
  rw [← hg] at hi
  rw [hgk] at hga
  have inj : ∀ {x y : Nat}, x < n → y < n → ((M + x) % n = (M + y) % n ↔ x = y) := fun hx hy => ⟨mod_inj hx hy, fun e => by rw [e]⟩
  rcases least_from g (a + 1) n with ⟨k, h1, h2, h3, h4⟩ | hno
  · have c1 : cnt g (k + 1) = cnt g (a + 1) + 1 := by
      simp only [cnt]
      have := cnt_flat (u := g) (a := a + 1) (b := k) h1 h4
      simp only [cnt] at this
      rw [this, h3]; rfl
    have c2 := cnt_mono g (a := k + 1) (b := n) h2
    refine ⟨(M + k) % n, Nat.mod_lt _ hn, by rw [hgk]; exact h3, ring_find hn (by omega) (by omega) (by rw [hgk]; exact h3) (fun j hj1 hj2 => by rw [hgk]; exact h4 j (by omega) hj2), ?_, r, k, h2, .inr (by rw [hgk]; exact h3), rfl, by rw [← hg, c1]; omega, fun j hj hp => ?_⟩
    · rw [hmet k h2 (by rw [hgk]; exact h3), if_neg (by omega), hi, Nat.mul_comm, Nat.mul_add_div hpos, Nat.div_eq_of_lt (by omega)]
    · simp only [inj hj h2]
      rw [hmet j hj hp]
      rw [hgk] at hp
      by_cases hjk : j = k
      · subst hjk; rw [if_pos rfl, if_neg (by omega), if_pos (Nat.le_refl _)]
      · rw [if_neg hjk]
        by_cases hja : j ≤ a
        · rw [if_pos hja, if_pos (by omega)]
        · rw [if_neg hja, if_neg (fun h => by rw [h4 j (by omega) (by omega)] at hp; cases hp)]
  · have c1 : cnt g n = cnt g (a + 1) := cnt_flat (by omega) hno
    rcases least_from g 0 n with ⟨k, _, h2, h3, h4⟩ | hno2
    · have hk0 : 0 < k := Nat.pos_of_ne_zero fun e => by subst e; rw [hg0] at h3; cases h3
      have hka : k ≤ a := by
        rcases Nat.lt_or_ge a k with h | h
        · rw [hno k (by omega) h2] at h3; cases h3
        · exact h
      have e : (M + (n + k)) % n = (M + k) % n := by rw [show M + (n + k) = M + k + n by omega, Nat.add_mod_right]
      have c2 : cnt g (k + 1) = 1 := by
        simp only [cnt]
        rw [cnt_flat (u := g) (a := 0) (b := k) (Nat.zero_le _) (fun j _ => h4 j (Nat.zero_le _)), h3]; rfl
      refine ⟨(M + k) % n, Nat.mod_lt _ hn, by rw [hgk]; exact h3, ?_, ?_, r + 1, k, h2, .inr (by rw [hgk]; exact h3), rfl, by rw [← hg, c2, Nat.add_mul]; omega, fun j hj hp => ?_⟩
      · rw [← e]
        refine ring_find hn (by omega) (by omega) (by rw [e, hgk]; exact h3) (fun j hj1 hj2 => ?_)
        rcases Nat.lt_or_ge j n with h | h
        · rw [hgk]; exact hno j (by omega) h
        · rw [show M + j = M + (j - n) + n by omega, Nat.add_mod_right, hgk]; exact h4 _ (Nat.zero_le _) (by omega)
      · rw [hmet k h2 (by rw [hgk]; exact h3), if_pos hka, hi, ← c1, ← hmg, ← Nat.succ_mul, Nat.mul_div_cancel _ hpos]
      · simp only [inj hj h2]
        rw [hmet j hj hp]
        rw [hgk] at hp
        have hja : j ≤ a := by
          rcases Nat.lt_or_ge a j with h | h
          · rw [hno j (by omega) hj] at hp; cases hp
          · exact h
        rw [if_pos hja]
        by_cases hjk : j = k
        · subst hjk; rw [if_pos rfl, if_pos (Nat.le_refl _)]
        · rw [if_neg hjk, if_neg (fun h => by rw [h4 j (Nat.zero_le _) (by omega)] at hp; cases hp)]
    · exfalso
      have := cnt_flat (u := g) (a := 0) (b := n) (Nat.zero_le _) hno2
      simp only [cnt] at this
      omega
end Go.Proofs.Ytfnecdkfhackkaa
