/- Values by kinds: what cells say of a datum, in which blocks; slices of a kind, read and owned. Plain lemmas, no program. -/
import Derived.Test.YtfnecdkfhackkaaBase
set_option linter.unusedVariables false
set_option linter.unusedSimpArgs false
namespace Go.Proofs.Ytfnecdkfhackkaa
open Go.RowKit

def InR (k : IntKind) (x : Int) : Prop := k.min ≤ x ∧ x ≤ k.max
theorem inr_u64 {x : Int} : InR .u64 x ↔ 0 ≤ x ∧ x ≤ 18446744073709551615 := by simp [InR, IntKind.min, IntKind.max, IntKind.signed, IntKind.bits]
theorem inr_i64 {x : Int} : InR .i64 x ↔ -9223372036854775808 ≤ x ∧ x ≤ 9223372036854775807 := by simp [InR, IntKind.min, IntKind.max, IntKind.signed, IntKind.bits]
theorem inr_u8 {x : Int} : InR .u8 x ↔ 0 ≤ x ∧ x ≤ 255 := by simp [InR, IntKind.min, IntKind.max, IntKind.signed, IntKind.bits]
theorem inr_u32 {x : Int} : InR .u32 x ↔ 0 ≤ x ∧ x ≤ 4294967295 := by simp [InR, IntKind.min, IntKind.max, IntKind.signed, IntKind.bits]

structure Kd (α : Type) where
  sz : Nat
  K : World → (Nat → Prop) → α → List Value → Prop
  len : ∀ {w F x cs}, K w F x cs → cs.length = sz
  one : ∀ {w F x cs}, K w F x cs → ∀ u ∈ cs, u.oneCell' = true
  mono : ∀ {w : World} {F F' : Nat → Prop} {x cs}, (∀ k, F k → k < w.heap.size → F' k) → K w F x cs → K w F' x cs
  move : ∀ {w w1 : World} {F : Nat → Prop} {x cs}, (∀ k, F k → k < w.heap.size → w1.heap[k]? = w.heap[k]?) → K w F x cs → K w1 F x cs

def Reps {α : Type} (R : α → List Value → Prop) (size : Nat) (ps : List α) (cs : List Value) : Prop :=
  cs.length = ps.length * size ∧ ∀ j p, ps[j]? = some p → R p ((cs.drop (j * size)).take size)
theorem Reps.none {α : Type} (R : α → List Value → Prop) (size : Nat) : Reps R size [] [] := ⟨by simp, fun j p h => by simp at h⟩
theorem Reps.append {α : Type} {R : α → List Value → Prop} {size : Nat} {ps qs : List α} {cs ds : List Value} (h : Reps R size ps cs) (h' : Reps R size qs ds) : Reps R size (ps ++ qs) (cs ++ ds) := by
  refine ⟨by rw [List.length_append, h.1, h'.1, List.length_append, Nat.add_mul], fun j q hq => ?_⟩
  rcases Nat.lt_or_ge j ps.length with hj | hj
  · rw [List.getElem?_append_left hj] at hq
    have h1 : j * size + size ≤ cs.length := by rw [h.1, ← Nat.succ_mul]; exact Nat.mul_le_mul_right _ hj
    have h2 := h.2 j q hq
    rw [List.drop_append_of_le_length (by omega), List.take_append_of_le_length (by rw [List.length_drop]; omega)]
    exact h2
  · rw [List.getElem?_append_right hj] at hq
    have h2 := h'.2 _ q hq
    have h3 : j * size = cs.length + (j - ps.length) * size := by rw [h.1, ← Nat.add_mul]; congr 1; omega
    rw [h3, List.drop_append]
    simp only [Nat.add_sub_cancel_left]
    rw [List.drop_eq_nil_of_le (by omega), List.nil_append]
    exact h2
theorem Reps.single {α : Type} {R : α → List Value → Prop} {size : Nat} {p : α} {c : List Value} (hp : R p c) (hc : c.length = size) : Reps R size [p] c := by
  refine ⟨by simp [hc], fun j q hq => ?_⟩
  have hj := (List.getElem?_eq_some_iff.1 hq).1
  have h0 : j = 0 := by simpa using hj
  subst h0
  have : p = q := by simpa using hq
  subst this
  simpa [← hc] using hp
theorem Reps.imp {α : Type} {R R' : α → List Value → Prop} {size : Nat} {ps : List α} {cs : List Value} (h : Reps R size ps cs) (hR : ∀ p c, R p c → R' p c) : Reps R' size ps cs := ⟨h.1, fun j p hj => hR _ _ (h.2 j p hj)⟩
theorem Reps.get {α : Type} {R : α → List Value → Prop} {size : Nat} {ps : List α} {cs : List Value} (h : Reps R size ps cs) {j : Nat} {p : α} (hj : ps[j]? = some p) :
    ∃ c, R p c ∧ (∀ i u, c[i]? = some u → cs[j * size + i]? = some u) := by
  refine ⟨_, h.2 j p hj, fun i u hu => ?_⟩
  rw [List.getElem?_take] at hu
  split at hu
  · rw [List.getElem?_drop] at hu; exact hu
  · cases hu
theorem Reps.one {α : Type} {R : α → List Value → Prop} {size : Nat} {ps : List α} {cs : List Value} (h : Reps R size ps cs) (h1 : ∀ p c, R p c → ∀ u ∈ c, u.oneCell' = true) : ∀ u ∈ cs, u.oneCell' = true := by
  intro u hu
  obtain ⟨n, hn, rfl⟩ := List.mem_iff_getElem.1 hu
  have hl := h.1
  rcases Nat.eq_zero_or_pos size with hs | hs
  · subst hs; omega
  · have hj : n / size < ps.length := by
      rw [Nat.div_lt_iff_lt_mul hs]; omega
    refine h1 _ _ (h.2 (n / size) _ (List.getElem?_eq_getElem hj)) _ (List.mem_of_getElem? (i := n % size) ?_)
    rw [List.getElem?_take, if_pos (Nat.mod_lt _ hs), List.getElem?_drop, Nat.div_add_mod']
    exact List.getElem?_eq_getElem hn
theorem Reps.drop {α : Type} {R : α → List Value → Prop} {size : Nat} {ps : List α} {cs : List Value} (h : Reps R size ps cs) (k : Nat) : Reps R size (ps.drop k) (cs.drop (k * size)) := by
  refine ⟨by rw [List.length_drop, h.1, List.length_drop, Nat.sub_mul], fun j q hq => ?_⟩
  rw [List.getElem?_drop] at hq
  rw [List.drop_drop, ← Nat.add_mul]
  exact h.2 _ q hq
theorem Reps.take {α : Type} {R : α → List Value → Prop} {size : Nat} {ps : List α} {cs : List Value} (h : Reps R size ps cs) (k : Nat) : Reps R size (ps.take k) (cs.take (k * size)) := by
  refine ⟨by rw [List.length_take, h.1, List.length_take, ← Nat.mul_min_mul_right], fun j q hq => ?_⟩
  rw [List.getElem?_take] at hq
  split at hq
  · rename_i hjk
    have h2 := h.2 j q hq
    have h3 : j * size + size ≤ k * size := by rw [← Nat.succ_mul]; exact Nat.mul_le_mul_right _ hjk
    rw [List.drop_take, List.take_take, Nat.min_eq_left (by omega)]
    exact h2
  · cases hq

section
variable {α : Type} {d : Kd α} {w w1 : World} {F F' G : Nat → Prop} {v : Value} {xs : List α} {e : TypeId}

/-- v is a slice that reads as xs, all in blocks of F. -/
def Sl (d : Kd α) (w : World) (F : Nat → Prop) (v : Value) (xs : List α) : Prop := ∃ cs, Src w F d.sz v xs.length cs ∧ Reps (d.K w F) d.sz xs cs
theorem Sl.move (h : Sl d w F v xs) (hm : ∀ k, F k → k < w.heap.size → w1.heap[k]? = w.heap[k]?) : Sl d w1 F v xs := by
  obtain ⟨cs, h1, h2⟩ := h
  exact ⟨cs, h1.move hm, h2.imp fun _ _ => d.move hm⟩
theorem Sl.mono (h : Sl d w F v xs) (hf : ∀ k, F k → k < w.heap.size → F' k) : Sl d w F' v xs := by
  obtain ⟨cs, h1, h2⟩ := h
  exact ⟨cs, h1.mono hf, h2.imp fun _ _ => d.mono hf⟩
theorem Sl.kept (h : Sl d w F v xs) (hk : Kept G w w1) (hd : ∀ k, F k → k < w.heap.size → ¬ G k) : Sl d w1 F v xs := h.move fun k hf hlt => hk.block k hlt (hd k hf hlt)
theorem Sl.new (h : Sl d w F v xs) (hk : Kept No w w1) : Sl d w1 F v xs := h.kept hk fun _ _ _ h => h
theorem Sl.slice (h : Sl d w F v xs) : ∃ A c, v = .slice A xs.length c ∧ xs.length ≤ c ∧ c ≤ maxLen := by
  obtain ⟨cs, ⟨A, c, h1, h2, h3, _⟩, _⟩ := h
  exact ⟨A, c, h1, h2, h3⟩
theorem Sl.nil (d : Kd α) (w : World) (F : Nat → Prop) : Sl d w F (.slice none 0 0) [] := ⟨[], ⟨none, 0, rfl, Nat.le_refl _, Nat.zero_le _, by simp, by simp, by simp⟩, Reps.none _ _⟩
theorem Sl.cases (hs : 0 < d.sz) (h : Sl d w F v xs) : (xs = [] ∧ ∃ A c, v = .slice A 0 c) ∨
    (0 < xs.length ∧ xs.length ≤ maxLen ∧ ∃ b off c, v = .slice (some ⟨b, off, none⟩) xs.length c ∧ xs.length ≤ c ∧ c ≤ maxLen ∧ F b ∧ b < w.heap.size ∧
      ∀ j x, xs[j]? = some x → ∃ cs, d.K w F x cs ∧ ∀ i u, cs[i]? = some u → w.cell? ⟨b, off + j * d.sz + i, none⟩ = some u) := by
  obtain ⟨cs, ⟨A, c, rfl, h2, h3, h4, h5, h6⟩, hr⟩ := h
  rcases Nat.eq_zero_or_pos xs.length with h0 | h0
  · exact .inl ⟨List.eq_nil_of_length_eq_zero h0, A, c, by rw [h0]⟩
  · have hp : 0 < cs.length := by rw [h4]; exact Nat.mul_pos h0 hs
    obtain ⟨b, off, rfl, hb, hc⟩ := h6 hp
    refine .inr ⟨h0, Nat.le_trans h2 h3, b, off, c, rfl, h2, h3, hb, ?_, fun j x hx => ?_⟩
    · exact World.block_lt_of_cell? w _ (hc 0 _ (List.getElem?_eq_getElem hp))
    · obtain ⟨c', hk, hcell⟩ := hr.get hx
      exact ⟨c', hk, fun i u hu => by rw [Nat.add_assoc]; exact hc _ u (hcell i u hu)⟩

/-- v is a slice of the call's own that holds xs: its row's block is none of G's, in which its elements' data lie. -/
def TW (d : Kd α) (e : TypeId) (w : World) (G : Nat → Prop) (v : Value) (xs : List α) : Prop :=
  ∃ cs, Win w e d.sz v xs.length cs ∧ Reps (d.K w G) d.sz xs cs ∧ ∀ k, v.ownBlock = some k → ¬ G k
theorem TW.nil (d : Kd α) (e : TypeId) (w : World) (G : Nat → Prop) : TW d e w G (.slice none 0 0) [] := ⟨[], Win.nil _ _ _, Reps.none _ _, fun k h => by simp [Value.ownBlock] at h⟩
theorem TW.lt (h : TW d e w G v xs) (k : Nat) (hk : v.ownBlock = some k) : k < w.heap.size ∧ ∃ cur, w.heap[k]? = some (.cells cur e (0, 0)) := by
  obtain ⟨cs, h1, _⟩ := h
  exact h1.lt k hk
theorem TW.kept (h : TW d e w G v xs) (hk : Kept F w w1) (hf : ∀ k, v.ownBlock = some k → ¬ F k) (hg : ∀ k, G k → k < w.heap.size → ¬ F k) : TW d e w1 G v xs := by
  obtain ⟨cs, h1, h2, h3⟩ := h
  exact ⟨cs, h1.kept hk hf, h2.imp fun _ _ => d.move fun k hg' hlt => hk.block k hlt (hg k hg' hlt), h3⟩
theorem TW.new (h : TW d e w G v xs) (hk : Kept No w w1) : TW d e w1 G v xs := h.kept hk (fun _ _ h => h) (fun _ _ _ h => h)
theorem TW.sl (h : TW d e w G v xs) : Sl d w (fun k => v.ownBlock = some k ∨ G k) v xs := by
  obtain ⟨cs, h1, h2, h3⟩ := h
  exact ⟨cs, (h1.src (h2.one fun _ _ => d.one)).mono fun k hk _ => .inl hk, h2.imp fun _ _ => d.mono fun k hk _ => .inr hk⟩
theorem TW.slice (h : TW d e w G v xs) : ∃ A c, v = .slice A xs.length c ∧ xs.length ≤ c ∧ c ≤ maxLen := by
  obtain ⟨cs, h1, _⟩ := h
  exact h1.slice
theorem TW.gmono (h : TW d e w G v xs) (hg : ∀ k, G k → k < w.heap.size → F k) (hf : ∀ k, v.ownBlock = some k → ¬ F k) : TW d e w F v xs := by
  obtain ⟨cs, h1, h2, h3⟩ := h
  exact ⟨cs, h1, h2.imp fun _ _ => d.mono hg, hf⟩
end

/-! ### The kinds -/
def flat {α : Type} (n : Nat) (enc : α → List Value) (ok : α → Prop) (hl : ∀ x, (enc x).length = n) (h1 : ∀ x, ∀ u ∈ enc x, u.oneCell' = true) : Kd α where
  sz := n
  K := fun _ _ x cs => cs = enc x ∧ ok x
  len := fun h => by rw [h.1]; exact hl _
  one := fun h u hu => by rw [h.1] at hu; exact h1 _ u hu
  mono := fun _ h => h
  move := fun _ h => h
def kI (k : IntKind) : Kd Int := flat 1 (fun x => [.int k x]) (InR k) (fun _ => rfl) (fun x u hu => by rw [List.mem_singleton.1 hu]; rfl)
def kB : Kd Bool := flat 1 (fun x => [.bool x]) (fun _ => True) (fun _ => rfl) (fun x u hu => by rw [List.mem_singleton.1 hu]; rfl)
/-- A cell that is a slice. -/
def kSl {α : Type} (d : Kd α) : Kd (List α) where
  sz := 1
  K := fun w F xs cs => ∃ v, cs = [v] ∧ Sl d w F v xs
  len := by rintro w F x cs ⟨v, rfl, _⟩; rfl
  one := by
    rintro w F x cs ⟨v, rfl, h⟩ u hu
    obtain ⟨A, c, rfl, _⟩ := h.slice
    rw [List.mem_singleton.1 hu]
    rfl
  mono := by rintro w F F' x cs hf ⟨v, rfl, h⟩; exact ⟨v, rfl, h.mono hf⟩
  move := by rintro w w1 F x cs hm ⟨v, rfl, h⟩; exact ⟨v, rfl, h.move hm⟩

/-- A slice of numbers, at hand. -/
theorem Sl.ints {k : IntKind} {w : World} {F : Nat → Prop} {v : Value} {xs : List Int} (h : Sl (kI k) w F v xs) : (xs = [] ∧ ∃ A c, v = .slice A 0 c) ∨
    (0 < xs.length ∧ xs.length ≤ 9223372036854775807 ∧ ∃ b off c, v = .slice (some ⟨b, off, none⟩) xs.length c ∧ xs.length ≤ c ∧ c ≤ 9223372036854775807 ∧ F b ∧ b < w.heap.size ∧
      ∀ j x, xs[j]? = some x → w.cell? ⟨b, off + j, none⟩ = some (.int k x) ∧ InR k x) := by
  rcases Sl.cases (Nat.one_pos) h with h | ⟨h0, h1, b, off, c, hv, h2, h3, hF, hb, hc⟩
  · exact .inl h
  · refine .inr ⟨h0, by simp only [maxLen] at h1; omega, b, off, c, hv, h2, by simp only [maxLen] at h3; omega, hF, hb, fun j x hx => ?_⟩
    obtain ⟨cs, ⟨rfl, hr⟩, hcell⟩ := hc j x hx
    have := hcell 0 _ rfl
    simp only [kI, flat, Nat.mul_one, Nat.add_zero] at this
    exact ⟨this, hr⟩
theorem Sl.inr {k : IntKind} {w : World} {F : Nat → Prop} {v : Value} {xs : List Int} (h : Sl (kI k) w F v xs) : ∀ x ∈ xs, InR k x := by
  intro x hx
  obtain ⟨j, hj⟩ := List.mem_iff_getElem?.1 hx
  obtain ⟨cs, _, hr⟩ := h
  obtain ⟨c, ⟨_, h1⟩, _⟩ := hr.get hj
  exact h1
/-- A slice of slices, at hand. -/
theorem Sl.rows {α : Type} {d : Kd α} {w : World} {F : Nat → Prop} {v : Value} {xs : List (List α)} (h : Sl (kSl d) w F v xs) : (xs = [] ∧ ∃ A c, v = .slice A 0 c) ∨
    (0 < xs.length ∧ xs.length ≤ 9223372036854775807 ∧ ∃ b off c, v = .slice (some ⟨b, off, none⟩) xs.length c ∧ xs.length ≤ c ∧ c ≤ 9223372036854775807 ∧ F b ∧ b < w.heap.size ∧
      ∀ j x, xs[j]? = some x → ∃ u, w.cell? ⟨b, off + j, none⟩ = some u ∧ Sl d w F u x) := by
  rcases Sl.cases (Nat.one_pos) h with h | ⟨h0, h1, b, off, c, hv, h2, h3, hF, hb, hc⟩
  · exact .inl h
  · refine .inr ⟨h0, by simp only [maxLen] at h1; omega, b, off, c, hv, h2, by simp only [maxLen] at h3; omega, hF, hb, fun j x hx => ?_⟩
    obtain ⟨cs, ⟨u, rfl, hr⟩, hcell⟩ := hc j x hx
    have := hcell 0 _ rfl
    simp only [kSl, Nat.mul_one, Nat.add_zero] at this
    exact ⟨u, this, hr⟩

/-- The row of v, if any, was laid behind w0. -/
def Fresh (w0 : World) (v : Value) : Prop := ∀ k, v.ownBlock = some k → w0.heap.size ≤ k
theorem Fresh.nil (w0 : World) : Fresh w0 (.slice none 0 0) := fun k h => by simp [Value.ownBlock] at h
theorem Fresh.next {w0 w : World} {v v' : Value} (h : Fresh w0 v) (hw : w0.heap.size ≤ w.heap.size) (hv : v'.ownBlock = v.ownBlock ∨ v'.ownBlock = some w.heap.size) : Fresh w0 v' := by
  intro k hk
  rcases hv with hv | hv
  · exact h k (hv ▸ hk)
  · rw [hv] at hk
    injection hk with hk
    omega
theorem Kept.fresh {w0 w w' : World} {v : Value} (h : Kept No w0 w) (hk : Kept (fun k => v.ownBlock = some k) w w') (hf : Fresh w0 v) : Kept No w0 w' :=
  h.trans2 hk fun i hi hv => absurd (hf i hv) (by omega)
theorem Kept.freshF {F : Nat → Prop} {w0 w w' : World} {v : Value} (h : Kept F w0 w) (hk : Kept (fun k => v.ownBlock = some k) w w') (hf : Fresh w0 v) : Kept F w0 w' :=
  h.trans2 hk fun i hi hv => absurd (hf i hv) (by omega)

theorem TW.empty {α : Type} {d : Kd α} {e : TypeId} {w : World} {G : Nat → Prop} {g : Nat} {cur : Array Value} (hg : w.heap[g]? = some (.cells cur e (0, 0))) (hG : ¬ G g) : TW d e w G (.slice (some ⟨g, 0, none⟩) 0 0) [] :=
  ⟨[], by simpa using Win.made (size := d.sz) (n := 0) (cap := 0) hg (Nat.le_refl _) (by decide) (by simp), Reps.none _ _, fun k hk => by
    have : g = k := by simpa [Value.ownBlock] using hk
    subst this
    exact hG⟩
theorem Sl.src {α : Type} {d : Kd α} {w : World} {F : Nat → Prop} {v : Value} {xs : List α} (h : Sl d w F v xs) : ∃ cs, Src w F d.sz v xs.length cs ∧ Reps (d.K w F) d.sz xs cs := h
section
variable {P : Program}
/-- append(v, y..), v the call's own. -/
theorem wpList_append_tw {α : Type} {d : Kd α} {w : World} {F G : Nat → Prop} {ops : Array Oper} {rest : List Oper} {o : Oper} {a : Act} {Q : Exit → Act → World → Prop} (hgd : o.guard = none) (s x : Operand) (t : TypeId)
    (ho : o.op = .call { callee := .builtin .append, args := #[s, x], argTypes := #[t, t] })
    (e : TypeId) (z : Value) (bytes : Nat) (ht : P.underlying t = some (.slice e)) (hinfo : (P.info? e).map (fun i => (i.zero, i.size, i.bytes)) = some (some z, d.sz, bytes)) (hzs : z.cells.size = d.sz)
    (v y : Value) (n : Nat) (xs ys : List α) (cs : List Value) (hs : a.eval s = v) (hv : TW d e w G v xs) (hx : a.eval x = y) (hy : Src w F d.sz y n cs) (hr : Reps (d.K w G) d.sz ys cs) (hn : ys.length = n) (hG : ∀ k, G k → k < w.heap.size)
    (h63 : xs.length + n ≤ maxLen) (hbytes : (xs.length + n) * bytes ≤ 140737488355328)
    (h : ∀ v' w', TW d e w' G v' (xs ++ ys) → Kept (fun k => v.ownBlock = some k) w w' → (v'.ownBlock = v.ownBlock ∨ v'.ownBlock = some w.heap.size) → wpList P ops Q rest (a.put o.dst v') w') : wpList P ops Q (o :: rest) a w := by
  subst hn
  obtain ⟨xc, h1, h2, h3⟩ := hv
  refine wpList_append_win hgd s x t ho e z d.sz bytes ht hinfo hzs v y xs.length ys.length xc cs hs h1 hx hy h63 hbytes ?_
  intro v' w' hw hg hb
  have hmv : ∀ k, G k → k < w.heap.size → w'.heap[k]? = w.heap[k]? := fun k hk hlt => hg.block k hlt (fun e => h3 k e.symm hk)
  refine h v' w' ⟨xc ++ cs, by rw [List.length_append]; exact hw, (h2.imp fun _ _ => d.move hmv).append (hr.imp fun _ _ => d.move hmv), ?_⟩ ((Kept.refl _ _).grown hg fun k hk _ => hk) hb
  intro k hk hGk
  rcases hb with hb | hb
  · exact h3 k (hb ▸ hk) hGk
  · rw [hb] at hk
    injection hk with hk
    have := hG k hGk
    omega
end
theorem reps_ints {k : IntKind} {w : World} {F : Nat → Prop} : ∀ {xs : List Int}, (∀ x ∈ xs, InR k x) → Reps ((kI k).K w F) (kI k).sz xs (xs.map (.int k))
  | [], _ => Reps.none _ _
  | x :: xs, h => by
    have h1 := Reps.single (R := (kI k).K w F) (size := 1) (p := x) (c := [.int k x]) ⟨rfl, h x (by simp)⟩ rfl
    exact h1.append (reps_ints (xs := xs) fun y hy => h y (by simp [hy]))
theorem Sl.take {α : Type} {d : Kd α} {w : World} {F : Nat → Prop} {A : Option Addr} {n c k : Nat} {xs : List α} (h : Sl d w F (.slice A n c) xs) (hk : k ≤ xs.length) : Sl d w F (.slice A k c) (xs.take k) := by
  obtain ⟨cs, ⟨A', c', hv, h1, h2, h3, h4, h5⟩, hr⟩ := h
  simp only [Value.slice.injEq] at hv
  obtain ⟨rfl, rfl, rfl⟩ := hv
  have hl : (xs.take k).length = k := by rw [List.length_take]; omega
  refine ⟨cs.take (k * d.sz), ⟨A, c, by rw [hl], by omega, h2, ?_, fun u hu => h4 u (List.mem_of_mem_take hu), fun hp => ?_⟩, hr.take k⟩
  · rw [List.length_take, h3, hl]
    have := Nat.mul_le_mul_right d.sz hk
    omega
  · obtain ⟨b, off, ho, hF, hc⟩ := h5 (by rw [List.length_take] at hp; omega)
    refine ⟨b, off, ho, hF, fun j u hj => hc j u ?_⟩
    rw [List.getElem?_take] at hj
    split at hj
    · exact hj
    · cases hj
/-- What is new behind w0. -/
def New (w0 w' : World) : Nat → Prop := fun k => w0.heap.size ≤ k ∧ k < w'.heap.size
theorem TW.slNew {α : Type} {d : Kd α} {e : TypeId} {w0 w : World} {v : Value} {xs : List α} (h : TW d e w No v xs) (hf : Fresh w0 v) : Sl d w (New w0 w) v xs :=
  h.sl.mono fun k hk hlt => ⟨hk.elim (hf k) (fun h => h.elim), hlt⟩
theorem TW.ints {k : IntKind} {e : TypeId} {w : World} {G : Nat → Prop} {v : Value} {xs : List Int} (h : TW (kI k) e w G v xs) : TW (kI k) e w No v xs := by
  obtain ⟨cs, h1, h2, _⟩ := h
  exact ⟨cs, h1, h2, fun _ _ h => h⟩
theorem TW.get {α : Type} {d : Kd α} {e : TypeId} {w : World} {G : Nat → Prop} {A : Option Addr} {n c : Nat} {xs : List α} (h : TW d e w G (.slice A n c) xs) {j : Nat} {x : α} (hx : xs[j]? = some x) :
    ∃ b off cs, A = some ⟨b, off, none⟩ ∧ d.K w G x cs ∧ ∀ i u, cs[i]? = some u → w.cell? ⟨b, off + j * d.sz + i, none⟩ = some u := by
  obtain ⟨xc, h1, h2, h3⟩ := h
  have hj := (List.getElem?_eq_some_iff.1 hx).1
  obtain ⟨cs, hK, hc⟩ := h2.get hx
  have h1' := h1
  rcases h1.2 with ⟨_, h0⟩ | ⟨g, off, cap, cur, hv, _⟩
  · omega
  · simp only [Value.slice.injEq] at hv
    obtain ⟨rfl, rfl, rfl⟩ := hv
    exact ⟨g, off, cs, rfl, hK, fun i u hu => by rw [Nat.add_assoc]; exact h1'.cell _ u (hc i u hu)⟩
end Go.Proofs.Ytfnecdkfhackkaa
