/- Ids and runs: plain laws on lists; no program in sight. -/
import Derived.Test.YtjokkmhndahnkaaKinds
set_option linter.unusedVariables false
set_option linter.unusedSimpArgs false
namespace Go.Proofs.Ytjokkmhndahnkaa

abbrev PID := Int × Int
abbrev PRun := Int × Int × Int

def lessI (a b : PID) : Bool := decide (a.1 < b.1 ∨ a.1 = b.1 ∧ a.2 < b.2)
theorem lessI_iff {a b : PID} : lessI a b = true ↔ (a.1 < b.1 ∨ a.1 = b.1 ∧ a.2 < b.2) := by simp [lessI]
theorem lessI_irr (a : PID) : lessI a a = false := by simp [lessI]
theorem lessI_trans {a b c : PID} (h1 : lessI a b = true) (h2 : lessI b c = true) : lessI a c = true := by rw [lessI_iff] at *; omega
theorem lessI_total {a b : PID} (h1 : lessI a b = false) (h2 : lessI b a = false) : a = b := by
  have h1' : ¬ (lessI a b = true) := by simp [h1]
  have h2' : ¬ (lessI b a = true) := by simp [h2]
  rw [lessI_iff] at h1' h2'
  obtain ⟨a1, a2⟩ := a
  obtain ⟨b1, b2⟩ := b
  simp only [Prod.mk.injEq] at *
  omega
theorem lessI_asymm {a b : PID} (h : lessI a b = true) : lessI b a = false := by
  cases h2 : lessI b a
  · rfl
  · have := lessI_trans h h2; rw [lessI_irr] at this; cases this
theorem lessI_ne {a b : PID} (h : lessI a b = true) : a ≠ b := fun e => by rw [e, lessI_irr] at h; cases h
def mayP (n : Int) (a : PID) : Bool := decide (a.1 < n) && decide (a.1 < 64) && decide (1 ≤ a.2) && decide (a.2 ≤ 4611686018427387904)
def may64 (a : PID) : Bool := mayP 64 a
theorem may64_iff {a : PID} : may64 a = true ↔ (a.1 < 64 ∧ 1 ≤ a.2 ∧ a.2 ≤ 4611686018427387904) := by simp [may64, mayP]; omega
def runI (x : PRun) : Bool := decide (x.1 < 64 ∧ 1 ≤ x.2.1 ∧ 1 ≤ x.2.2 ∧ x.2.1 + x.2.2 ≤ 4611686018427387905)
theorem runI_iff {x : PRun} : runI x = true ↔ (x.1 < 64 ∧ 1 ≤ x.2.1 ∧ 1 ≤ x.2.2 ∧ x.2.1 + x.2.2 ≤ 4611686018427387905) := by simp [runI]
def okStep (p x : PRun) : Bool := decide (p.1 < x.1 ∨ p.1 = x.1 ∧ p.2.1 + p.2.2 < x.2.1)
theorem okStep_iff {p x : PRun} : okStep p x = true ↔ (p.1 < x.1 ∨ p.1 = x.1 ∧ p.2.1 + p.2.2 < x.2.1) := by simp [okStep]
/-- Rows behind a run, or from the begin. -/
def rowsF : Option PRun → List PRun → Bool
  | _, [] => true
  | o, x :: l => (match o with | some p => okStep p x | none => true) && runI x && rowsF (some x) l
def rowsI (l : List PRun) : Bool := rowsF none l
theorem rowsF_append (l2 : List PRun) : ∀ (l1 : List PRun) (o : Option PRun), rowsF o (l1 ++ l2) = (rowsF o l1 && rowsF (l1.getLast?.or o) l2)
  | [], o => by simp [rowsF]
  | x :: l1, o => by
    rw [List.cons_append]
    simp only [rowsF, rowsF_append l2 l1]
    have : (x :: l1).getLast?.or o = l1.getLast?.or (some x) := by
      cases h : l1.getLast? with
      | none => simp [List.getLast?_eq_none_iff.1 h]
      | some y => rw [List.getLast?_cons]; simp [h]
    rw [this]
    simp [Bool.and_assoc]
theorem rowsI_take_false {l : List PRun} {k : Nat} (h : rowsI (l.take k) = false) : rowsI l = false := by
  rw [← List.take_append_drop k l, rowsI, rowsF_append]
  rw [rowsI] at h
  simp [h]
theorem take_succ_snoc {α : Type} {l : List α} {k : Nat} {x : α} (h : l[k]? = some x) : l.take (k + 1) = l.take k ++ [x] := by
  rw [List.take_add_one, h]; rfl
theorem rowsI_snoc0 {l : List PRun} {x : PRun} (h : l[0]? = some x) : rowsI (l.take 1) = runI x := by
  rw [take_succ_snoc h]; simp [rowsI, rowsF]
theorem getLast_take {α : Type} {l : List α} {k : Nat} {p : α} (h : l[k]? = some p) : (l.take (k + 1)).getLast? = some p := by
  rw [take_succ_snoc h]; simp
theorem rowsI_snoc {l : List PRun} {k : Nat} {p x : PRun} (hp : l[k]? = some p) (hx : l[k + 1]? = some x) : rowsI (l.take (k + 1 + 1)) = (rowsI (l.take (k + 1)) && (okStep p x && runI x)) := by
  rw [take_succ_snoc hx, rowsI, rowsF_append, getLast_take hp]
  simp [rowsF, rowsI]
theorem rowsF_run {l : List PRun} : ∀ {o : Option PRun}, rowsF o l = true → ∀ x ∈ l, runI x = true := by
  induction l with
  | nil => intro o _ x hx; cases hx
  | cons y l ih =>
    intro o h x hx
    simp only [rowsF, Bool.and_eq_true] at h
    rcases List.mem_cons.1 hx with rfl | hx
    · exact h.1.2
    · exact ih h.2 x hx

/-- The ids of a run, of runs. -/
def idsOf (x : PRun) : List PID := (List.range x.2.2.toNat).map fun (k : Nat) => (x.1, x.2.1 + (k : Int))
def listI (l : List PRun) : List PID := l.flatMap idsOf
theorem idsOf_len (x : PRun) : (idsOf x).length = x.2.2.toNat := by simp [idsOf]
theorem idsOf_get {x : PRun} {k : Nat} (h : k < x.2.2.toNat) : (idsOf x)[k]? = some (x.1, x.2.1 + (k : Int)) := by simp [idsOf, h]
theorem mem_idsOf {x : PRun} {a : PID} : a ∈ idsOf x ↔ (x.1 = a.1 ∧ x.2.1 ≤ a.2 ∧ a.2 < x.2.1 + x.2.2) := by
  obtain ⟨a1, a2⟩ := a
  simp only [idsOf, List.mem_map, List.mem_range, Prod.mk.injEq]
  constructor
  · rintro ⟨k, hk, rfl, rfl⟩; omega
  · rintro ⟨h1, h2, h3⟩; exact ⟨(a2 - x.2.1).toNat, by omega, h1, by omega⟩
theorem mem_listI {l : List PRun} {a : PID} : a ∈ listI l ↔ ∃ x ∈ l, x.1 = a.1 ∧ x.2.1 ≤ a.2 ∧ a.2 < x.2.1 + x.2.2 := by
  simp only [listI, List.mem_flatMap, mem_idsOf]

def hasI (a : PID) (l : List PRun) : Bool := l.any fun x => runI x && decide (x.1 = a.1 ∧ x.2.1 ≤ a.2 ∧ a.2 < x.2.1 + x.2.2)
theorem hasI_iff {l : List PRun} (h : ∀ x ∈ l, runI x = true) (a : PID) : hasI a l = true ↔ a ∈ listI l := by
  simp only [hasI, List.any_eq_true, Bool.and_eq_true, decide_eq_true_eq, mem_listI]
  constructor
  · rintro ⟨x, hx, _, h2⟩; exact ⟨x, hx, h2⟩
  · rintro ⟨x, hx, h2⟩; exact ⟨x, hx, h x hx, h2⟩

def sumI (l : List PRun) : Int := ((l.filter runI).map (·.2.2)).sum
theorem sumI_cons (x : PRun) (l : List PRun) : sumI (x :: l) = (if runI x then x.2.2 else 0) + sumI l := by
  unfold sumI
  cases h : runI x <;> simp [h]
theorem sumI_append (l1 l2 : List PRun) : sumI (l1 ++ l2) = sumI l1 + sumI l2 := by
  unfold sumI; simp
theorem sumI_nonneg (l : List PRun) : 0 ≤ sumI l := by
  induction l with
  | nil => simp [sumI]
  | cons x l ih =>
    rw [sumI_cons]
    split
    · rename_i h; rw [runI_iff] at h; omega
    · omega
def countI (l : List PRun) : Int := min (sumI l) 4611686018427387904
theorem countI_snoc {l : List PRun} {k : Nat} {x : PRun} (hx : l[k]? = some x) : countI (l.take (k + 1)) = if runI x then min (countI (l.take k) + x.2.2) 4611686018427387904 else countI (l.take k) := by
  rw [take_succ_snoc hx]
  unfold countI
  rw [sumI_append, sumI_cons]
  have h0 : sumI ([] : List PRun) = 0 := rfl
  rw [h0]
  split
  · rename_i h
    rw [runI_iff] at h
    have := sumI_nonneg (l.take k)
    omega
  · omega
theorem countI_full {l : List PRun} {k : Nat} {x : PRun} (hx : l[k]? = some x) (hr : runI x = true) (h : x.2.2 > 4611686018427387904 - countI (l.take k)) : countI l = 4611686018427387904 := by
  have h1 := countI_snoc hx
  rw [if_pos hr] at h1
  have h2 : sumI l = sumI (l.take (k + 1)) + sumI (l.drop (k + 1)) := by rw [← sumI_append, List.take_append_drop]
  have h3 := sumI_nonneg (l.drop (k + 1))
  unfold countI at *
  omega
theorem countI_bound (l : List PRun) : 0 ≤ countI l ∧ countI l ≤ 4611686018427387904 := by
  have := sumI_nonneg l
  unfold countI
  omega
theorem listI_len {l : List PRun} (h : ∀ x ∈ l, runI x = true) : ((listI l).length : Int) = sumI l := by
  induction l with
  | nil => rfl
  | cons x l ih =>
    have hx := h x (by simp)
    rw [sumI_cons, if_pos hx, ← ih fun y hy => h y (by simp [hy])]
    simp only [listI, List.flatMap_cons, List.length_append, idsOf_len]
    rw [runI_iff] at hx
    omega

/-! ### Strictly ascending lists -/
def Asc (l : List PID) : Prop := l.Pairwise fun a b => lessI a b = true
theorem Asc.idsOf (x : PRun) : Asc (idsOf x) := by
  unfold Asc Go.Proofs.Ytjokkmhndahnkaa.idsOf
  rw [List.pairwise_map]
  refine List.Pairwise.imp ?_ (List.pairwise_lt_range)
  intro a b h
  rw [lessI_iff]
  simp only
  exact .inr ⟨trivial, by omega⟩
theorem rowsF_ahead {l : List PRun} : ∀ {p : PRun}, rowsF (some p) l = true → ∀ x ∈ l, okStep p x = true := by
  induction l with
  | nil => intro p _ x hx; cases hx
  | cons y l ih =>
    intro p h x hx
    simp only [rowsF, Bool.and_eq_true] at h
    rcases List.mem_cons.1 hx with rfl | hx
    · exact h.1.1
    · have h1 := ih h.2 x hx
      have h2 := h.1.1
      have h3 := h.1.2
      rw [okStep_iff] at *
      rw [runI_iff] at h3
      omega
theorem rowsF_asc {l : List PRun} : ∀ {o : Option PRun}, rowsF o l = true → Asc (listI l) := by
  induction l with
  | nil => intro o _; exact List.Pairwise.nil
  | cons x l ih =>
    intro o h
    simp only [rowsF, Bool.and_eq_true] at h
    simp only [listI, List.flatMap_cons, Asc]
    rw [List.pairwise_append]
    refine ⟨Asc.idsOf x, ih h.2, fun a ha b hb => ?_⟩
    rw [mem_idsOf] at ha
    obtain ⟨y, hy, h1, h2, h3⟩ := mem_listI.1 hb
    have h4 := rowsF_ahead h.2 y hy
    rw [okStep_iff] at h4
    rw [lessI_iff]
    omega
theorem rowsF_may {l : List PRun} {o : Option PRun} (h : rowsF o l = true) : ∀ a ∈ listI l, may64 a = true := by
  intro a ha
  obtain ⟨x, hx, h1, h2, h3⟩ := mem_listI.1 ha
  have h4 := rowsF_run h x hx
  rw [runI_iff] at h4
  rw [may64_iff]
  omega
theorem Asc.unique : ∀ {a b : List PID}, Asc a → Asc b → (∀ x, x ∈ a ↔ x ∈ b) → a = b
  | [], [], _, _, _ => rfl
  | [], y :: b, _, _, h => by have := (h y).2 (by simp); cases this
  | x :: a, [], _, _, h => by have := (h x).1 (by simp); cases this
  | x :: a, y :: b, ha, hb, h => by
    unfold Asc at ha hb
    rw [List.pairwise_cons] at ha hb
    have hxy : x = y := by
      rcases List.mem_cons.1 ((h x).1 (by simp)) with e | hx
      · exact e
      · rcases List.mem_cons.1 ((h y).2 (by simp)) with e | hy
        · exact e.symm
        · have h1 := hb.1 x hx
          have h2 := ha.1 y hy
          rw [lessI_asymm h1] at h2
          cases h2
    subst hxy
    congr 1
    refine Asc.unique ha.2 hb.2 fun z => ?_
    have hz := h z
    rw [List.mem_cons, List.mem_cons] at hz
    constructor
    · intro hm
      rcases hz.1 (.inr hm) with e | e
      · subst e; have := ha.1 _ hm; rw [lessI_irr] at this; cases this
      · exact e
    · intro hm
      rcases hz.2 (.inr hm) with e | e
      · subst e; have := hb.1 _ hm; rw [lessI_irr] at this; cases this
      · exact e

/-! ### Joining -/
def joinStep (out : List PRun) (a : PID) : List PRun := match out.getLast? with
  | some p => if (p.1, p.2.1 + p.2.2) = a then out.dropLast ++ [(p.1, p.2.1, p.2.2 + 1)] else out ++ [(a.1, a.2, 1)]
  | none => out ++ [(a.1, a.2, 1)]
def joinI (l : List PID) : List PRun := l.foldl joinStep []
theorem joinI_snoc {l : List PID} {k : Nat} {a : PID} (h : l[k]? = some a) : joinI (l.take (k + 1)) = joinStep (joinI (l.take k)) a := by
  rw [take_succ_snoc h, joinI, List.foldl_append]; rfl
theorem joinStep_same (out : List PRun) (p : PRun) (a : PID) (h : (p.1, p.2.1 + p.2.2) = a) : joinStep (out ++ [p]) a = out ++ [(p.1, p.2.1, p.2.2 + 1)] := by
  simp [joinStep, h]
theorem joinStep_new (out : List PRun) (a : PID) (h : ∀ p, out.getLast? = some p → (p.1, p.2.1 + p.2.2) ≠ a) : joinStep out a = out ++ [(a.1, a.2, 1)] := by
  unfold joinStep
  cases hl : out.getLast? with
  | none => rfl
  | some p => simp only; rw [if_neg (h p hl)]
theorem join_ids (out : List PRun) (f a : Int) : ∀ (c : Nat), (∀ p, out.getLast? = some p → okStep p (f, a, 1) = true) →
    ((List.range (c + 1)).map fun (k : Nat) => ((f, a + (k : Int)) : PID)).foldl joinStep out = out ++ [(f, a, (c : Int) + 1)]
  | 0, h => by
    simp only [Nat.zero_add, List.range_one, List.map_cons, List.map_nil, List.foldl_cons, List.foldl_nil]
    rw [joinStep_new]
    · simp
    · intro p hp e
      have := h p hp
      rw [okStep_iff] at this
      simp only [Prod.mk.injEq] at e this
      omega
  | c + 1, h => by
    rw [List.range_succ, List.map_append, List.foldl_append, join_ids out f a c h]
    simp only [List.map_cons, List.map_nil, List.foldl_cons, List.foldl_nil]
    rw [joinStep_same]
    · simp
    · simp
theorem join_listI : ∀ (l : List PRun) (out : List PRun), rowsF out.getLast? l = true → (listI l).foldl joinStep out = out ++ l
  | [], out, _ => by simp [listI]
  | x :: l, out, h => by
    simp only [rowsF, Bool.and_eq_true] at h
    obtain ⟨f, a, c⟩ := x
    have hr := runI_iff.1 h.1.2
    simp only at hr
    have hc : c.toNat = (c.toNat - 1) + 1 := by omega
    simp only [listI, List.flatMap_cons, List.foldl_append]
    have h1 : (idsOf (f, a, c)).foldl joinStep out = out ++ [(f, a, c)] := by
      simp only [idsOf]
      rw [hc, join_ids out f a _ (fun p hp => by
        have h2 := h.1.1
        rw [hp] at h2
        simp only [okStep_iff] at h2 ⊢
        exact h2)]
      have e : ((c.toNat - 1 : Nat) : Int) + 1 = c := by omega
      rw [e]
    rw [h1]
    have h3 := join_listI l (out ++ [(f, a, c)]) (by simpa using h.2)
    rw [listI] at h3
    rw [h3]
    simp
theorem joinI_listI {l : List PRun} (h : rowsI l = true) : joinI (listI l) = l := by
  have := join_listI l [] (by simpa [rowsI] using h)
  simpa [joinI] using this

theorem listI_append (a b : List PRun) : listI (a ++ b) = listI a ++ listI b := by simp [listI]
theorem listI_one (f a c : Int) : listI [(f, a, c)] = (List.range c.toNat).map fun (k : Nat) => ((f, a + (k : Int)) : PID) := by simp [listI, idsOf]
theorem joinI_good : ∀ (l : List PID), Asc l → (∀ a ∈ l, may64 a = true) → ∀ k, k ≤ l.length →
    listI (joinI (l.take k)) = l.take k ∧ rowsI (joinI (l.take k)) = true := by
  intro l hl hm k
  induction k with
  | zero => intro _; simp [joinI, listI, rowsI, rowsF]
  | succ k ih =>
    intro hk
    obtain ⟨h1, h2⟩ := ih (by omega)
    obtain ⟨a, ha⟩ : ∃ a, l[k]? = some a := ⟨_, List.getElem?_eq_getElem (by omega)⟩
    have hma := may64_iff.1 (hm a (List.mem_of_getElem? ha))
    rw [joinI_snoc ha, take_succ_snoc ha]
    have hasc : Asc (l.take k ++ [a]) := by
      rw [← take_succ_snoc ha]
      exact hl.sublist (List.take_sublist _ _)
    unfold Asc at hasc
    rw [List.pairwise_append] at hasc
    have hlt : ∀ b ∈ l.take k, lessI b a = true := fun b hb => hasc.2.2 b hb a (by simp)
    obtain ⟨R, hR⟩ : ∃ R, R = joinI (l.take k) := ⟨_, rfl⟩
    rw [← hR] at h1 h2 ⊢
    have hlast : ∀ p, R.getLast? = some p → R = R.dropLast ++ [p] := by
      intro p hp
      have hne : R ≠ [] := by rintro rfl; simp at hp
      have h3 := List.dropLast_concat_getLast hne
      rw [List.getLast?_eq_some_getLast hne] at hp
      injection hp with hp
      rw [← hp]; exact h3.symm
    by_cases hc : ∃ p, R.getLast? = some p ∧ (p.1, p.2.1 + p.2.2) = a
    · obtain ⟨p, hp, hpa⟩ := hc
      have hRd := hlast p hp
      obtain ⟨f, b, c⟩ := p
      simp only at hpa
      subst hpa
      rw [hRd] at h1 h2 ⊢
      rw [joinStep_same _ _ _ rfl]
      have hrun := rowsF_run h2 (f, b, c) (by simp)
      have hr := runI_iff.1 hrun
      simp only at hr hma
      constructor
      · rw [← h1, listI_append, listI_append, listI_one, listI_one, List.append_assoc]
        congr 1
        have e : (c + 1).toNat = c.toNat + 1 := by omega
        rw [e, List.range_succ, List.map_append]
        have e2 : ((c.toNat : Nat) : Int) = c := by omega
        simp [e2]
      · simp only [rowsI, rowsF_append, Bool.and_eq_true] at h2 ⊢
        refine ⟨h2.1, ?_⟩
        have h3 := h2.2
        simp only [rowsF, Bool.and_eq_true, Bool.and_true] at h3 ⊢
        refine ⟨?_, by rw [runI_iff]; simp only; omega⟩
        cases hq : (R.dropLast.getLast?.or none) with
        | none => rfl
        | some q =>
          rw [hq] at h3
          have h4 := h3.1
          simp only [okStep_iff] at h4 ⊢
          exact h4
    · have hno : ∀ p, R.getLast? = some p → (p.1, p.2.1 + p.2.2) ≠ a := fun p hp e => hc ⟨p, hp, e⟩
      rw [joinStep_new R a hno]
      obtain ⟨a1, a2⟩ := a
      simp only at hma
      constructor
      · rw [listI_append, h1, listI_one]
        simp
      · simp only [rowsI, rowsF_append, Bool.and_eq_true] at h2 ⊢
        refine ⟨h2, ?_⟩
        simp only [rowsF, Bool.and_eq_true, Bool.and_true]
        refine ⟨?_, by rw [runI_iff]; simp only; omega⟩
        cases hq : R.getLast? with
        | none => rfl
        | some q =>
          have hRd := hlast q hq
          have hrun := runI_iff.1 (rowsF_run h2 q (by rw [hRd]; simp))
          have hne := hno q hq
          have hmem : ((q.1, q.2.1 + q.2.2 - 1) : PID) ∈ l.take k := by
            rw [← h1, mem_listI]
            exact ⟨q, by rw [hRd]; simp, rfl, by simp only; omega, by simp only; omega⟩
          have h5 := lessI_iff.1 (hlt _ hmem)
          simp only [Option.or_none, okStep_iff]
          simp only [ne_eq, Prod.mk.injEq, not_and] at hne h5
          by_cases e : q.1 = a1
          · have := hne e; omega
          · omega

/-! ### Taking doubles out -/
def compactL : List PID → List PID
  | [] => []
  | [x] => [x]
  | x :: y :: l => if x = y then compactL (y :: l) else x :: compactL (y :: l)
theorem compactL_snoc (a b : PID) : ∀ (l : List PID), compactL (l ++ [a] ++ [b]) = compactL (l ++ [a]) ++ (if a = b then [] else [b])
  | [] => by by_cases h : a = b <;> simp [compactL, h]
  | [x] => by
    have ih := compactL_snoc a b []
    simp only [List.nil_append, List.cons_append] at ih ⊢
    simp only [compactL] at ih ⊢
    by_cases h : x = a <;> by_cases h2 : a = b <;> simp [h, h2]
  | x :: y :: l => by
    have ih := compactL_snoc a b (y :: l)
    simp only [List.cons_append] at ih ⊢
    simp only [compactL]
    rw [ih]
    by_cases h : x = y <;> simp [h]
theorem compactL_take {l : List PID} {k : Nat} {a b : PID} (ha : l[k]? = some a) (hb : l[k + 1]? = some b) : compactL (l.take (k + 1 + 1)) = compactL (l.take (k + 1)) ++ (if a = b then [] else [b]) := by
  rw [take_succ_snoc hb, take_succ_snoc ha, compactL_snoc]
theorem compactL_mem : ∀ (l : List PID) (a : PID), a ∈ compactL l ↔ a ∈ l
  | [], a => by simp [compactL]
  | [x], a => by simp [compactL]
  | x :: y :: l, a => by
    have ih := compactL_mem (y :: l) a
    simp only [compactL]
    split
    · rename_i h; subst h; rw [ih]; simp
    · rw [List.mem_cons, ih, List.mem_cons (a := a) (b := x)]
theorem compactL_asc : ∀ (l : List PID), l.Pairwise (fun a b => lessI b a = false) → Asc (compactL l)
  | [], _ => List.Pairwise.nil
  | [x], _ => by simp [compactL, Asc]
  | x :: y :: l, h => by
    rw [List.pairwise_cons] at h
    have ih := compactL_asc (y :: l) h.2
    simp only [compactL]
    split
    · exact ih
    · rename_i hne
      unfold Asc
      rw [List.pairwise_cons]
      refine ⟨fun b hb => ?_, ih⟩
      rw [compactL_mem] at hb
      have hxb := h.1 b hb
      cases hx : lessI x b
      · have e := lessI_total hx hxb
        subst e
        have hy := h.1 y (by simp)
        rw [List.pairwise_cons] at h
        rcases List.mem_cons.1 hb with e | hb2
        · exact absurd e hne
        · have h3 := h.2.1 x hb2
          exact absurd (lessI_total h3 hy) hne
      · rfl
theorem compactL_len : ∀ (l : List PID), (compactL l).length ≤ l.length
  | [] => by simp [compactL]
  | [x] => by simp [compactL]
  | x :: y :: l => by
    have ih := compactL_len (y :: l)
    simp only [compactL]
    split <;> simp at ih ⊢ <;> omega

/-- The ids of l that may be, each once, in order. -/
structure SortedOf (l s : List PID) : Prop where
  asc : Asc s
  mem : ∀ a, a ∈ s ↔ a ∈ l ∧ may64 a = true
theorem SortedOf.unique {l s t : List PID} (h : SortedOf l s) (k : SortedOf l t) : s = t := Asc.unique h.asc k.asc fun x => by rw [h.mem, k.mem]
theorem SortedOf.self {s : List PID} (h : Asc s) (hm : ∀ a ∈ s, may64 a = true) : SortedOf s s := ⟨h, fun a => ⟨fun ha => ⟨ha, hm a ha⟩, fun ha => ha.1⟩⟩
theorem SortedOf.good {l s : List PID} (h : SortedOf l s) : listI (joinI s) = s ∧ rowsI (joinI s) = true := by
  have := joinI_good s h.asc (fun a ha => ((h.mem a).1 ha).2) s.length (Nat.le_refl _)
  simpa using this
theorem Asc.len_le {s l : List PID} (hs : Asc s) (h : ∀ a ∈ s, a ∈ l) : s.length ≤ l.length := by
  induction s generalizing l with
  | nil => simp
  | cons x s ih =>
    unfold Asc at hs
    rw [List.pairwise_cons] at hs
    have h1 := ih (l := l.erase x) hs.2 fun a ha => (List.mem_erase_of_ne (fun e => by subst e; have := hs.1 _ ha; rw [lessI_irr] at this; cases this)).2 (h a (by simp [ha]))
    have h2 := List.length_erase_of_mem (h x (by simp))
    have h3 : 0 < l.length := List.length_pos_of_mem (h x (by simp))
    simp only [List.length_cons]
    omega
end Go.Proofs.Ytjokkmhndahnkaa
