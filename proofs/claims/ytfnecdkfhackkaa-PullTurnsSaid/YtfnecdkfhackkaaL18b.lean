/- The laws of matrix, second part, plain: what is known only rises. -/
import Derived.Test.YtfnecdkfhackkaaL18a
set_option linter.unusedVariables false
set_option linter.unusedSimpArgs false
namespace Go.Proofs.Ytfnecdkfhackkaa
open Go.RowKit

theorem foldl_min_iff {α : Type} (f : α → Int) (x : Int) (l : List α) : ∀ a : Int, x ≤ l.foldl (fun n r => min n (f r)) a ↔ x ≤ a ∧ ∀ r ∈ l, x ≤ f r := by
  induction l with
  | nil => intro a; simp
  | cons r l ih =>
    intro a
    rw [List.foldl_cons, ih]
    constructor
    · rintro ⟨h1, h2⟩
      exact ⟨by omega, fun s hs => by rcases List.mem_cons.1 hs with rfl | hs; · omega
                                      · exact h2 s hs⟩
    · rintro ⟨h1, h2⟩
      have := h2 r (by simp)
      exact ⟨by omega, fun s hs => h2 s (by simp [hs])⟩
theorem foldl_max_iff {α : Type} (f : α → Int) (x : Int) (l : List α) : ∀ a : Int, l.foldl (fun n r => max n (f r)) a ≤ x ↔ a ≤ x ∧ ∀ r ∈ l, f r ≤ x := by
  induction l with
  | nil => intro a; simp
  | cons r l ih =>
    intro a
    rw [List.foldl_cons, ih]
    constructor
    · rintro ⟨h1, h2⟩
      exact ⟨by omega, fun s hs => by rcases List.mem_cons.1 hs with rfl | hs; · omega
                                      · exact h2 s hs⟩
    · rintro ⟨h1, h2⟩
      have := h2 r (by simp)
      exact ⟨by omega, fun s hs => h2 s (by simp [hs])⟩
theorem le_foldl_len (l : List (List Int)) : ∀ m : Nat, m ≤ l.foldl (fun n a => max n a.length) m := by
  induction l with
  | nil => intro m; exact Nat.le_refl _
  | cons a l ih => intro m; exact Nat.le_trans (by show m ≤ max m a.length; omega) (ih _)
theorem vlen_wide {ls : List (List Int)} {n : Nat} (h : ∀ a ∈ ls, a.length = n) (h0 : ls ≠ []) : vlen ls = n := by
  have h1 : vlen ls ≤ n := vlen_le fun a ha => by rw [h a ha]; exact Nat.le_refl _
  cases ls with
  | nil => exact (h0 rfl).elim
  | cons a l =>
    have h2 : max 0 a.length ≤ vlen (a :: l) := le_foldl_len l (max 0 a.length)
    have := h a (by simp)
    omega
theorem vat_vfold {op : Int → Int → Int} {ls : List (List Int)} {i : Nat} (h : i < vlen ls) : vat (vfold op ls) i = ls.tail.foldl (fun n a => op n (vat a i)) (vat (ls.headD []) i) := by
  rw [vat, vfold, List.getD_eq_getElem?_getD, List.getElem?_map, List.getElem?_range h]; rfl
theorem vfold_len (op : Int → Int → Int) (ls : List (List Int)) : (vfold op ls).length = vlen ls := by simp [vfold]
theorem vmin_iff {ls : List (List Int)} {n i : Nat} (h : ∀ a ∈ ls, a.length = n) (h0 : ls ≠ []) (hi : i < n) (x : Int) : x ≤ vat (vfold min ls) i ↔ ∀ a ∈ ls, x ≤ vat a i := by
  rw [vat_vfold (by rw [vlen_wide h h0]; exact hi), foldl_min_iff (fun a => vat a i)]
  cases ls with
  | nil => exact (h0 rfl).elim
  | cons a l => simp
theorem vmax_iff {ls : List (List Int)} {n i : Nat} (h : ∀ a ∈ ls, a.length = n) (h0 : ls ≠ []) (hi : i < n) (x : Int) : vat (vfold max ls) i ≤ x ↔ ∀ a ∈ ls, vat a i ≤ x := by
  rw [vat_vfold (by rw [vlen_wide h h0]; exact hi), foldl_max_iff (fun a => vat a i)]
  cases ls with
  | nil => exact (h0 rfl).elim
  | cons a l => simp

def Wide (n : Nat) (rows : List Row) : Prop := ∀ r ∈ rows, r.done.length = n ∧ r.held.length = n
theorem left_mem {rows : List Row} {r : Row} : r ∈ leftL rows ↔ r ∈ rows ∧ r.gone = false := by simp [leftL]
theorem stable_len {n : Nat} {rows : List Row} (h : Wide n rows) : (stableM n rows).length = n := by
  unfold stableM
  split
  · simp
  · rename_i h0
    rw [vfold_len]
    refine vlen_wide (fun a ha => ?_) (fun e => h0 (by simpa using e))
    obtain ⟨r, hr, rfl⟩ := List.mem_map.1 ha
    exact (h r (left_mem.1 hr).1).1
theorem stable_iff {n i : Nat} {rows : List Row} (h : Wide n rows) (h0 : leftL rows ≠ []) (hi : i < n) (x : Int) : x ≤ vat (stableM n rows) i ↔ ∀ r ∈ leftL rows, x ≤ vat r.done i := by
  unfold stableM
  rw [if_neg (fun e => h0 (List.eq_nil_of_length_eq_zero e)), vmin_iff (n := n) (fun a ha => ?_) (by simpa using h0) hi]
  · simp
  · obtain ⟨r, hr, rfl⟩ := List.mem_map.1 ha
    exact (h r (left_mem.1 hr).1).1
theorem most_len {n : Nat} {rows : List Row} (h : Wide n rows) (h0 : rows ≠ []) : (mostM rows).length = n := by
  rw [mostM, vfold_len]
  refine vlen_wide (fun a ha => ?_) (by simpa using h0)
  obtain ⟨r, hr, rfl⟩ := List.mem_map.1 ha
  exact (h r hr).2
theorem most_iff {n i : Nat} {rows : List Row} (h : Wide n rows) (h0 : rows ≠ []) (hi : i < n) (x : Int) : vat (mostM rows) i ≤ x ↔ ∀ r ∈ rows, vat r.held i ≤ x := by
  rw [mostM, vmax_iff (n := n) (fun a ha => ?_) (by simpa using h0) hi]
  · simp
  · obtain ⟨r, hr, rfl⟩ := List.mem_map.1 ha
    exact (h r hr).2
theorem least_iff {rows : List Row} (h0 : leftL rows ≠ []) (x : Int) : x ≤ leastM rows ↔ ∀ r ∈ leftL rows, x ≤ r.inst := by
  unfold leastM
  cases hl : leftL rows with
  | nil => exact (h0 hl).elim
  | cons r l =>
    simp only
    rw [lowI, foldl_min_iff Row.inst]
    simp
theorem covers_iff {a b : List Int} : coversM a b = true ↔ ∀ i, i < b.length → vat b i ≤ vat a i := by simp [coversM]

structure RLe (r r' : Row) : Prop where
  inst : r.inst ≤ r'.inst
  done : ∀ i, i < r.done.length → vat r.done i ≤ vat r'.done i
  held : ∀ i, i < r.held.length → vat r.held i ≤ vat r'.held i
  gone : r'.gone = false → r.gone = false
  dl : r'.done.length = r.done.length
  hl : r'.held.length = r.held.length
theorem RLe.refl (r : Row) : RLe r r := ⟨Int.le_refl _, fun _ _ => Int.le_refl _, fun _ _ => Int.le_refl _, id, rfl, rfl⟩
theorem deedRow_le (x : Deed) (r : Row) : RLe r (deedRow x r) := by
  unfold deedRow
  cases x.gone
  · refine ⟨by simp [tellRow]; omega, fun i hi => ?_, fun i hi => ?_, id, by simp [tellRow, vrise_len], by simp [tellRow, vrise_len]⟩
    · simp only [tellRow, Bool.false_eq_true, if_false]; rw [vat_vrise _ _ _ hi]; omega
    · simp only [tellRow, Bool.false_eq_true, if_false]; rw [vat_vrise _ _ _ hi]; omega
  · exact ⟨Int.le_refl _, fun _ _ => Int.le_refl _, fun _ _ => Int.le_refl _, fun h => by simp at h, rfl, rfl⟩
def Rise (rows rows' : List Row) : Prop := ∀ i : Nat, (rows[i]? = none ∧ rows'[i]? = none) ∨ ∃ r r', rows[i]? = some r ∧ rows'[i]? = some r' ∧ RLe r r'
theorem deed_rise (rows : List Row) (x : Deed) : Rise rows (deed rows x) := by
  intro i
  rw [deed_upd, upd_get]
  cases hr : rows[i]? with
  | none => left; split <;> simp
  | some r =>
    right
    split
    · exact ⟨r, _, rfl, rfl, deedRow_le x r⟩
    · exact ⟨r, r, rfl, rfl, RLe.refl r⟩
theorem Rise.back {rows rows' : List Row} (h : Rise rows rows') {r' : Row} (hr : r' ∈ rows') : ∃ r ∈ rows, RLe r r' := by
  obtain ⟨i, hi⟩ := List.mem_iff_getElem?.1 hr
  rcases h i with ⟨_, h2⟩ | ⟨r, r2, h1, h2, h3⟩
  · rw [h2] at hi; cases hi
  · rw [h2] at hi; injection hi with hi; subst hi; exact ⟨r, List.mem_of_getElem? h1, h3⟩
theorem Rise.fore {rows rows' : List Row} (h : Rise rows rows') {r : Row} (hr : r ∈ rows) : ∃ r' ∈ rows', RLe r r' := by
  obtain ⟨i, hi⟩ := List.mem_iff_getElem?.1 hr
  rcases h i with ⟨h2, _⟩ | ⟨r1, r2, h1, h2, h3⟩
  · rw [h2] at hi; cases hi
  · rw [h1] at hi; injection hi with hi; subst hi; exact ⟨r2, List.mem_of_getElem? h2, h3⟩
theorem Rise.wide {rows rows' : List Row} (h : Rise rows rows') {n : Nat} (hw : Wide n rows) : Wide n rows' := by
  intro r' hr
  obtain ⟨r, h1, h2⟩ := h.back hr
  rw [h2.dl, h2.hl]; exact hw r h1
theorem Rise.at_ {rows rows' : List Row} (h : Rise rows rows') (p : Int) : (rowAt rows p = none ∧ rowAt rows' p = none) ∨ ∃ r r', rowAt rows p = some r ∧ rowAt rows' p = some r' ∧ RLe r r' := by
  unfold rowAt
  by_cases hp : p < 0
  · left; simp [hp]
  · simp only [hp, if_false]; exact h p.toNat
theorem Rise.inst {rows rows' : List Row} (h : Rise rows rows') (p : Int) : instOf rows p ≤ instOf rows' p := by
  unfold instOf
  rcases h.at_ p with ⟨h1, h2⟩ | ⟨r, r', h1, h2, h3⟩
  · rw [h1, h2]; exact Int.le_refl _
  · rw [h1, h2]; exact h3.inst
theorem Rise.done {rows rows' : List Row} (h : Rise rows rows') (p : Int) : coversM (doneOf rows' p) (doneOf rows p) = true := by
  unfold doneOf
  rcases h.at_ p with ⟨h1, h2⟩ | ⟨r, r', h1, h2, h3⟩
  · rw [h1, h2]; rfl
  · rw [h1, h2]; exact covers_iff.2 h3.done
theorem Rise.held {rows rows' : List Row} (h : Rise rows rows') (p : Int) : coversM (heldOf rows' p) (heldOf rows p) = true := by
  unfold heldOf
  rcases h.at_ p with ⟨h1, h2⟩ | ⟨r, r', h1, h2, h3⟩
  · rw [h1, h2]; rfl
  · rw [h1, h2]; exact covers_iff.2 h3.held
theorem Rise.left {rows rows' : List Row} (h : Rise rows rows') {r' : Row} (hr : r' ∈ leftL rows') : ∃ r ∈ leftL rows, RLe r r' := by
  obtain ⟨h1, h2⟩ := left_mem.1 hr
  obtain ⟨r, h3, h4⟩ := h.back h1
  exact ⟨r, left_mem.2 ⟨h3, h4.gone h2⟩, h4⟩
theorem Rise.stable {rows rows' : List Row} {n : Nat} (h : Rise rows rows') (hw : Wide n rows) (h0 : leftL rows' ≠ []) : coversM (stableM n rows') (stableM n rows) = true := by
  rw [covers_iff, stable_len hw]
  intro i hi
  have h1 : leftL rows ≠ [] := by
    intro e
    obtain ⟨r', hr⟩ := List.exists_mem_of_ne_nil _ h0
    obtain ⟨r, hr2, _⟩ := h.left hr
    rw [e] at hr2; cases hr2
  rw [stable_iff (h.wide hw) h0 hi]
  intro r' hr
  obtain ⟨r, hr2, h3⟩ := h.left hr
  have h4 := (stable_iff hw h1 hi _).1 (Int.le_refl _) r hr2
  exact Int.le_trans h4 (h3.done i (by rw [(hw r (left_mem.1 hr2).1).1]; exact hi))
theorem Rise.most {rows rows' : List Row} {n : Nat} (h : Rise rows rows') (hw : Wide n rows) (h0 : rows ≠ []) : coversM (mostM rows') (mostM rows) = true := by
  rw [covers_iff, most_len hw h0]
  intro i hi
  have h1 : rows' ≠ [] := by
    intro e
    obtain ⟨r, hr⟩ := List.exists_mem_of_ne_nil _ h0
    obtain ⟨r', hr2, _⟩ := h.fore hr
    rw [e] at hr2; cases hr2
  rw [most_iff hw h0 hi]
  intro r hr
  obtain ⟨r', hr2, h3⟩ := h.fore hr
  exact Int.le_trans (h3.held i (by rw [(hw r hr).2]; exact hi)) ((most_iff (h.wide hw) h1 hi _).1 (Int.le_refl _) r' hr2)
theorem Rise.least {rows rows' : List Row} (h : Rise rows rows') (h0 : leftL rows' ≠ []) : leastM rows ≤ leastM rows' := by
  have h1 : leftL rows ≠ [] := by
    intro e
    obtain ⟨r', hr⟩ := List.exists_mem_of_ne_nil _ h0
    obtain ⟨r, hr2, _⟩ := h.left hr
    rw [e] at hr2; cases hr2
  rw [least_iff h0]
  intro r' hr
  obtain ⟨r, hr2, h3⟩ := h.left hr
  exact Int.le_trans ((least_iff h1 _).1 (Int.le_refl _) r hr2) h3.inst

/-- How many are left. -/
def leftN (rows : List Row) : Nat := (leftL rows).length
theorem leftN_eq (rows : List Row) : leftN rows = rows.countP fun r => !r.gone := by rw [leftN, leftL, List.countP_eq_length_filter]
theorem leftN_gone (rows : List Row) (p : Int) : (leftN rows : Int) - gone1n rows p = leftN (gone1 rows p) ∧ 0 ≤ gone1n rows p ∧ gone1n rows p ≤ 1 := by
  unfold gone1 gone1n
  cases hr : rowAt rows p with
  | none => simp
  | some r =>
    simp only
    have hr2 : rows[p.toNat]? = some r := by
      unfold rowAt at hr
      split at hr
      · cases hr
      · exact hr
    obtain ⟨hlt, he⟩ := List.getElem?_eq_some_iff.1 hr2
    rw [leftN_eq, leftN_eq, List.countP_set hlt, he]
    cases hg : r.gone with
    | true => simp
    | false =>
      have : 0 < rows.countP fun r => !r.gone := List.countP_pos_iff.2 ⟨r, List.mem_of_getElem? hr2, by simp [hg]⟩
      simp; omega
theorem leftN_tell (rows : List Row) (p i : Int) (d h : List Int) : leftN (tell rows p i d h) = leftN rows := by
  unfold tell
  split
  · rfl
  · split
    · rename_i r hr
      obtain ⟨hlt, he⟩ := List.getElem?_eq_some_iff.1 hr
      rw [leftN_eq, leftN_eq, List.countP_set hlt, he]
      have e : (tellRow r i d h).gone = r.gone := rfl
      rw [e]
      cases hg : r.gone with
      | true => simp
      | false =>
        have : 0 < rows.countP fun r => !r.gone := List.countP_pos_iff.2 ⟨r, List.mem_of_getElem? hr, by simp [hg]⟩
        simp; omega
    · rfl
theorem left_ne {rows : List Row} (h : 1 ≤ leftN rows) : leftL rows ≠ [] := fun e => by rw [leftN, e] at h; simp at h
theorem leftN_le (rows : List Row) : leftN rows ≤ rows.length := left_len
theorem leftN_new (n : Nat) : leftN (List.replicate n (zrow n)) = n := by simp [leftN, leftL, zrow]
theorem least_none {rows : List Row} (h : leftN rows = 0) : leastM rows = 0 := by
  unfold leastM; rw [List.eq_nil_of_length_eq_zero h]
theorem stable_none {n : Nat} {rows : List Row} (h : leftN rows = 0) : same04 (stableM n rows) [] = true := by
  unfold stableM
  rw [if_pos (show (leftL rows).length = 0 from h), same04, Bool.and_eq_true]
  refine ⟨covers_iff.2 fun i hi => by simp at hi, covers_iff.2 fun i hi => ?_⟩
  simp [vat]
  rw [List.getElem?_replicate]; split <;> simp
end Go.Proofs.Ytfnecdkfhackkaa
