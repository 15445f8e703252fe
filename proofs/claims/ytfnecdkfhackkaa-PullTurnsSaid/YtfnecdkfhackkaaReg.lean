/- A rule for a stretch of operations whose order is left open: a plan names one order; what only reads may be read at any time at which nothing but new memory can come ahead of it. Plain lemmas, no program. -/
import Derived.WalkKit
import Derived.OrdersHeld
set_option linter.unusedVariables false
set_option linter.unusedSimpArgs false
namespace Go.Proofs.Ytfnecdkfhackkaa
open Go.RowKit

/-- But for the blocks of F, what was there is as it was. -/
structure Kept (F : Nat → Prop) (w w' : World) : Prop where
  os : w'.os = w.os
  tape : w'.tape = w.tape
  output : w'.output = w.output
  size : w.heap.size ≤ w'.heap.size
  block : ∀ k, k < w.heap.size → ¬ F k → w'.heap[k]? = w.heap[k]?
def No : Nat → Prop := fun _ => False
theorem Kept.refl (F : Nat → Prop) (w : World) : Kept F w w := ⟨rfl, rfl, rfl, Nat.le_refl _, fun _ _ _ => rfl⟩
theorem Kept.trans {F : Nat → Prop} {a b c : World} (h : Kept F a b) (k : Kept F b c) : Kept F a c :=
  ⟨k.os.trans h.os, k.tape.trans h.tape, k.output.trans h.output, Nat.le_trans h.size k.size, fun i hi hf => (k.block i (Nat.lt_of_lt_of_le hi h.size) hf).trans (h.block i hi hf)⟩
theorem Kept.mono {F F' : Nat → Prop} {a b : World} (h : Kept F a b) (hf : ∀ k, k < a.heap.size → F k → F' k) : Kept F' a b :=
  ⟨h.os, h.tape, h.output, h.size, fun i hi hn => h.block i hi (fun hx => hn (hf i hi hx))⟩
/-- A second step that turns what was new at the first. -/
theorem Kept.trans2 {F G : Nat → Prop} {a b c : World} (h : Kept F a b) (k : Kept G b c) (hg : ∀ i, i < a.heap.size → G i → F i) : Kept F a c :=
  ⟨k.os.trans h.os, k.tape.trans h.tape, k.output.trans h.output, Nat.le_trans h.size k.size, fun i hi hf => (k.block i (Nat.lt_of_lt_of_le hi h.size) (fun hx => hf (hg i hi hx))).trans (h.block i hi hf)⟩
theorem Kept.of_below {F : Nat → Prop} {w w' : World} (h : Below w.heap.size w w') : Kept F w w' := ⟨h.os, h.tape, h.output, h.size, fun k hk _ => h.block k hk⟩
theorem Kept.no {F : Nat → Prop} {w w' : World} (h : Kept No w w') : Kept F w w' := h.mono (fun _ _ h => h.elim)
theorem Kept.below {F : Nat → Prop} {w w' : World} (h : Kept F w w') {B : Nat} (hB : B ≤ w.heap.size) (hf : ∀ k, k < B → ¬ F k) : Below B w w' :=
  ⟨h.os, h.tape, h.output, h.size, fun k hk => h.block k (by omega) (hf k hk)⟩
theorem Kept.drew {F : Nat → Prop} {a w : World} (h : Kept F a w) : Kept F a w.drew := ⟨h.os, h.tape, h.output, h.size, h.block⟩
theorem Kept.alloc {F : Nat → Prop} {a w : World} (h : Kept F a w) (o : Obj) : Kept F a (w.alloc o) :=
  h.trans ⟨rfl, rfl, rfl, by simp, fun k hk _ => Below.heap_alloc _ _ _ hk⟩
theorem Kept.setCell {F : Nat → Prop} {a w : World} (h : Kept F a w) {p : Addr} (hp : p.block < a.heap.size → F p.block) (u : Value) : Kept F a (w.setCell p u) :=
  ⟨h.os, h.tape, h.output, by have := h.size; simp [World.setCell]; exact this, fun k hk hn => (Below.heap_setCell _ _ _ _ (fun e => by subst e; exact hn (hp hk))).trans (h.block k hk hn)⟩
theorem Kept.grown {F : Nat → Prop} {a w w' : World} {row : Option Nat} (h : Kept F a w) (hg : w.grownBy w' row) (hr : ∀ k, row = some k → k < a.heap.size → F k) : Kept F a w' :=
  ⟨hg.os.trans h.os, hg.tape.trans h.tape, hg.output.trans h.output, Nat.le_trans h.size hg.size, fun k hk hn => (hg.block k (Nat.lt_of_lt_of_le hk h.size) (fun e => hn (hr k e.symm hk))).trans (h.block k hk hn)⟩
theorem Kept.cell {F : Nat → Prop} {w w' : World} (h : Kept F w w') {p : Addr} {v : Value} (hc : w.cell? p = some v) (hf : ¬ F p.block) : w'.cell? p = some v :=
  (World.cell?_of_block (w := w) (h.block p.block (World.block_lt_of_cell? w p hc) hf)).trans hc
theorem Kept.cell_eq {F : Nat → Prop} {w w' : World} (h : Kept F w w') {b o : Nat} (hb : b < w.heap.size) (hf : ¬ F b) : w'.cell? ⟨b, o, none⟩ = w.cell? ⟨b, o, none⟩ :=
  World.cell?_of_block (w := w) (a := ⟨b, o, none⟩) (h.block b hb hf)
theorem Kept.frozen_eq {F : Nat → Prop} {w w' : World} (h : Kept F w w') {b o : Nat} (hb : b < w.heap.size) (hf : ¬ F b) : w'.frozen? ⟨b, o, none⟩ = w.frozen? ⟨b, o, none⟩ :=
  World.frozen?_of_block (w := w) (a := ⟨b, o, none⟩) (h.block b hb hf)

/-- One order of a region, and what each step of it is. -/
inductive Plan where
  | fin
  | pur (i : Nat) (p : Plan)
  | rd (i : Nat) (p : Plan)
  | grow (i : Nat) (p : Plan)
  | act (i : Nat) (p : Plan)
  | fork (i j : Nat) (p q : Plan)
  | fork3 (i j k : Nat) (p q r : Plan)

def GPost (F : Nat → Prop) (w : World) (R : Act → World → Prop) : Exit → Act → World → Prop
  | .normal, a, w' => Kept F w w' ∧ R a w'
  | _, _, _ => False
def APost (R : Act → World → Prop) : Exit → Act → World → Prop
  | .normal, a, w' => R a w'
  | _, _, _ => False

theorem GPost.mk {F : Nat → Prop} {w w' : World} {R : Act → World → Prop} {a : Act} (hb : Kept F w w') (h : R a w') : GPost F w R .normal a w' := ⟨hb, h⟩
theorem APost.mk {w' : World} {R : Act → World → Prop} {a : Act} (h : R a w') : APost R .normal a w' := h

def wpPl (P : Program) (F : Nat → Prop) (l : List Oper) (Q : Act → World → Prop) : Plan → Act → World → Prop
  | .fin, a, w => Q a w
  | .pur i p, a, w => ∃ v, YieldsIf P l.toArray (fun _ => True) (l.getD i default) v a ∧ wpPl P F l Q p (a.put (l.getD i default).dst v) w
  | .rd i p, a, w => ∃ v, YieldsIf P l.toArray (fun W => Kept F w W) (l.getD i default) v a ∧ wpPl P F l Q p (a.put (l.getD i default).dst v) w
  | .grow i p, a, w => wpList P l.toArray (GPost F w (wpPl P F l Q p)) [l.getD i default] a w
  | .act i p, a, w => wpList P l.toArray (APost (wpPl P F l Q p)) [l.getD i default] a w
  | .fork i j p q, a, w => wpList P l.toArray (GPost F w (wpPl P F l Q p)) [l.getD i default] a w ∧ wpList P l.toArray (GPost F w (wpPl P F l Q q)) [l.getD j default] a w
  | .fork3 i j k p q r, a, w => wpList P l.toArray (GPost F w (wpPl P F l Q p)) [l.getD i default] a w ∧ wpList P l.toArray (GPost F w (wpPl P F l Q q)) [l.getD j default] a w ∧ wpList P l.toArray (GPost F w (wpPl P F l Q r)) [l.getD k default] a w

def Plan.size : Plan → Nat
  | .fin => 0
  | .pur _ p | .rd _ p | .grow _ p | .act _ p => p.size + 1
  | .fork _ _ p q => max p.size q.size + 1
  | .fork3 _ _ _ p q r => max p.size (max q.size r.size) + 1

/-- Does i come ahead of j by the edges? -/
def reach (ops : Array Oper) (i : Nat) : Nat → Nat → Bool
  | 0, _ => false
  | n + 1, j => match ops[j]? with
    | none => false
    | some o => o.after.any fun e => Region.binds .any e && (e.on == i || reach ops i n e.on)

/-- No operation of 'ws' may come ahead of i from here on. -/
def quietOk (ops : Array Oper) (ws : List Nat) (listed : Array Bool) (i : Nat) : Bool :=
  ws.all fun j => listed.getD j true || j == i || reach ops i ops.size j

def Plan.ok (ops : Array Oper) (ws : List Nat) : Plan → Array Bool → Bool
  | .fin, ld => Region.ready .any ops ld == []
  | .pur i p, ld => (Region.ready .any ops ld).contains i && Region.free .any ops ld i && p.ok ops ws (ld.setIfInBounds i true)
  | .rd i p, ld => (Region.ready .any ops ld).contains i && Region.free .any ops ld i && quietOk ops ws ld i && p.ok ops ws (ld.setIfInBounds i true)
  | .grow i p, ld => Region.ready .any ops ld == [i] && p.ok ops ws (ld.setIfInBounds i true)
  | .act i p, ld => Region.ready .any ops ld == [i] && ws.contains i && p.ok ops ws (ld.setIfInBounds i true)
  | .fork i j p q, ld => Region.ready .any ops ld == [i, j] && p.ok ops ws (ld.setIfInBounds i true) && q.ok ops ws (ld.setIfInBounds j true)
  | .fork3 i j k p q r, ld => Region.ready .any ops ld == [i, j, k] && p.ok ops ws (ld.setIfInBounds i true) && q.ok ops ws (ld.setIfInBounds j true) && r.ok ops ws (ld.setIfInBounds k true)

section
variable {P : Program} {F : Nat → Prop} {ops : Array Oper} {Q : Exit → Act → World → Prop}

def wpAnyG (P : Program) (F : Nat → Prop) (ops : Array Oper) (Q : Exit → Act → World → Prop) (ws : List Nat) : Nat → Array Bool → Act → World → Prop
  | 0, listed, a, w => Region.ready .any ops listed = [] ∧ Q .normal a w
  | fuel + 1, listed, a, w =>
    (Region.ready .any ops listed = [] → Q .normal a w) ∧
    ∀ i ∈ Region.ready .any ops listed, wpOp P ops Q i (fun a' w' => (Kept F w w' ∨ i ∈ ws) ∧ wpAnyG P F ops Q ws fuel (listed.setIfInBounds i true) a' w') a w

theorem wpAny_of_G {ws : List Nat} : ∀ (fuel : Nat) (listed : Array Bool) (a : Act) (w : World), wpAnyG P F ops Q ws fuel listed a w → wpAny P .any ops Q fuel listed a w
  | 0, _, _, _, h => h
  | fuel + 1, _, _, _, h => ⟨h.1, fun i hi => wpOp_mono (fun a' w' h' => wpAny_of_G fuel _ a' w' h'.2) (h.2 i hi)⟩

/-- What is listed has all ahead of it listed. -/
def DC (ops : Array Oper) (listed : Array Bool) : Prop :=
  ∀ k o, ops[k]? = some o → listed.getD k false = true → ∀ e ∈ o.after, Region.binds .any e = true → listed.getD e.on false = true

theorem DC.step {listed : Array Bool} {i : Nat} (h : DC ops listed) (hi : i ∈ Region.ready .any ops listed) : DC ops (listed.setIfInBounds i true) := by
  obtain ⟨hun, oi, hoi, hall⟩ := mem_ready.1 hi
  intro k o hk hl e he hb
  by_cases hki : i = k
  · subst hki
    rw [hoi] at hk
    injection hk with hk
    subst hk
    exact getD_set_true (hall e he hb)
  · rw [getD_set_ne false hki] at hl
    exact getD_set_true (h k o hk hl e he hb)

theorem DC.start (n : Nat) : DC ops (Array.replicate n false) := by
  intro k o _ hl
  exfalso
  rw [Array.getD_eq_getD_getElem?] at hl
  by_cases h : k < n
  · rw [Array.getElem?_eq_getElem (by simpa using h)] at hl; simp at hl
  · rw [Array.getElem?_eq_none (by simpa using h)] at hl; simp at hl

theorem reach_listed {listed : Array Bool} (h : DC ops listed) {i : Nat} : ∀ (n j : Nat) (o : Oper), ops[j]? = some o →
    (∀ e ∈ o.after, Region.binds .any e = true → listed.getD e.on false = true) → reach ops i n j = true → listed.getD i false = true := by
  intro n
  induction n with
  | zero => intro j o _ _ hr; simp [reach] at hr
  | succ n ih =>
    intro j o hj hall hr
    simp only [reach, hj] at hr
    obtain ⟨e, he, hb⟩ := Array.any_eq_true'.1 hr
    rw [Bool.and_eq_true, Bool.or_eq_true] at hb
    have hl := hall e he hb.1
    rcases hb.2 with hb2 | hb2
    · rw [beq_iff_eq] at hb2
      rw [hb2] at hl
      exact hl
    · cases ho : ops[e.on]? with
      | none =>
        cases n with
        | zero => simp [reach] at hb2
        | succ n => simp [reach, ho] at hb2
      | some o2 => exact ih e.on o2 ho (h e.on o2 ho hl) hb2

theorem unlisted_of_ready {listed : Array Bool} {i : Nat} (hi : i ∈ Region.ready .any ops listed) : listed.getD i false = false := by
  have h0 := (mem_ready.1 hi).1
  rcases Nat.lt_or_ge i listed.size with h' | h'
  · simp [h'] at h0 ⊢; exact h0
  · simp [Array.getElem?_eq_none h'] at h0

/-- What yields in every world of S may be taken first. -/
theorem G_first {ws : List Nat} {S : World → Prop} {i : Nat} {oi : Oper} {v : Value} (hi : ops[i]? = some oi) (hsel : ∀ (j : Nat) (o : Oper) cs b, ops[j]? = some o → o.op ≠ .select cs b)
    (hQ : ∀ c a w, Q (.panic c) (a.put oi.dst v) w → Q (.panic c) a w) (hgrow : ∀ w w', S w → Kept F w w' → S w') :
    ∀ (fuel : Nat) (listed : Array Bool) (a : Act) (w : World),
      (∀ j oj, ops[j]? = some oj → j ≠ i → listed.getD j true = false → (∀ e ∈ oj.after, Region.binds .any e = true → e.on ≠ i) → oi.apart ops oj = true) →
      ((∀ W, S W) ∨ quietOk ops ws listed i = true) → DC ops listed →
      i ∈ Region.ready .any ops listed → YieldsIf P ops S oi v a → S w →
      wpAnyG P F ops Q ws fuel (listed.setIfInBounds i true) (a.put oi.dst v) w → wpAnyG P F ops Q ws (fuel + 1) listed a w := by
  intro fuel
  induction fuel with
  | zero =>
    intro listed a w _ _ _ hr hy hS H
    refine ⟨fun h => (by rw [h] at hr; cases hr), fun j hj => ?_⟩
    by_cases hji : j = i
    · subst hji; exact hy.wpOp hi hS ⟨.inl (Kept.refl _ _), H⟩
    · have := ready_mono hj hji
      rw [H.1] at this
      cases this
  | succ fuel ih =>
    intro listed a w hfree hq hdc hr hy hS H
    refine ⟨fun h => (by rw [h] at hr; cases hr), fun j hj => ?_⟩
    by_cases hji : j = i
    · subst hji; exact hy.wpOp hi hS ⟨.inl (Kept.refl _ _), H⟩
    · have h1 := H.2 j (ready_mono hj hji)
      obtain ⟨hjun, oj, hoj, hall⟩ := mem_ready.1 hj
      have hiun := unlisted_of_ready hr
      have hnot : ∀ e ∈ oj.after, Region.binds .any e = true → e.on ≠ i := fun e he hb heq => by
        have h1 := hall e he hb
        rw [heq, hiun] at h1
        cases h1
      have hkeepS : ∀ w', (Kept F w w' ∨ j ∈ ws) → S w' := by
        intro w' hb
        rcases hq with hq | hq
        · exact hq w'
        · rcases hb with hb | hb
          · exact hgrow w w' hS hb
          · exfalso
            have h2 := List.all_eq_true.1 hq j hb
            rw [Bool.or_eq_true, Bool.or_eq_true] at h2
            rcases h2 with (h2 | h2) | h2
            · rw [h2] at hjun; cases hjun
            · exact hji (by simpa using h2)
            · have := reach_listed hdc _ j oj hoj hall h2
              rw [hiun] at this; cases this
      have h2 := wpOp_putIf hoj (hfree j oj hoj hji hjun hnot) (fun cs b => hsel i oi cs b hi) (fun cs b => hsel j oj cs b hoj) hQ hy h1
      have hfree' : ∀ k ok, ops[k]? = some ok → k ≠ i → (listed.setIfInBounds j true).getD k true = false →
          (∀ e ∈ ok.after, Region.binds .any e = true → e.on ≠ i) → oi.apart ops ok = true := fun k ok hk hki hun hno => by
        refine hfree k ok hk hki ?_ hno
        by_cases hjk : j = k
        · subst hjk; exact hjun
        · rw [getD_set_ne true hjk] at hun; exact hun
      have hq' : (∀ W, S W) ∨ quietOk ops ws (listed.setIfInBounds j true) i = true := by
        rcases hq with hq | hq
        · exact .inl hq
        · refine .inr (List.all_eq_true.2 fun k hk => ?_)
          have h3 := List.all_eq_true.1 hq k hk
          rw [Bool.or_eq_true, Bool.or_eq_true] at h3 ⊢
          rcases h3 with (h3 | h3) | h3
          · refine .inl (.inl ?_)
            by_cases hjk : j = k
            · subst hjk
              have hlt : j < listed.size ∨ listed.size ≤ j := Nat.lt_or_ge _ _
              rcases hlt with h' | h'
              · simp [h']
              · simp [Array.getElem?_eq_none h'] 
            · rw [getD_set_ne true hjk]; exact h3
          · exact .inl (.inr h3)
          · exact .inr h3
      refine wpOp_mono (fun a' w' h3 => ⟨h3.2.1, ih (listed.setIfInBounds j true) a' w' hfree' hq' (hdc.step hj) (ready_mono hr (Ne.symm hji)) h3.1 (hkeepS w' h3.2.1) ?_⟩) h2
      rw [Array.setIfInBounds_comm _ _ hji]
      exact h3.2.2

theorem wpOp_of_list {i : Nat} {o : Oper} {a : Act} {w : World} {K : Act → World → Prop} {Q' : Exit → Act → World → Prop} (hi : ops[i]? = some o)
    (hn : ∀ a w, Q' .normal a w → K a w) (hp : ∀ c a w, ¬ Q' (.panic c) a w) (ho : ¬ LetsOut Q') (h : wpList P ops Q' [o] a w) : wpOp P ops Q i K a w := by
  unfold wpOp
  simp only [hi]
  unfold wpList at h
  split at h
  · rename_i hw
    rw [if_pos hw]
    rcases h with h | h
    · refine .inl ?_
      unfold Oper.wp at *
      generalize (execOp a.eval o).run P w = r at *
      cases r with
      | ok n w' =>
        cases n <;> simp only [Oper.upon, wpList] at h ⊢ <;>
          first
            | exact hn _ _ h
            | exact Calls.mono h (fun e w'' he => by cases e <;> first | exact hn _ _ he | exact (hp _ _ _ he).elim | exact (ho he).elim)
            | exact Rows.mono h (fun _ _ he => hn _ _ he)
      | halt x w' =>
        cases x <;> simp only [Oper.upon] at h ⊢
        exact (hp _ _ _ h).elim
    · exact (ho h.2).elim
  · rename_i hw
    rw [if_neg hw]
    simp only [wpList] at h
    exact hn _ _ h

theorem GPost.noOut {F : Nat → Prop} {w : World} {R : Act → World → Prop} : ¬ LetsOut (GPost F w R) := fun ⟨_, _, h⟩ => h
theorem APost.noOut {R : Act → World → Prop} : ¬ LetsOut (APost R) := fun ⟨_, _, h⟩ => h

theorem mem_of_eq {l : List Nat} {i : Nat} (h : (l == [i]) = true) : l = [i] := by simpa using h

theorem plan_sound {l : List Oper} {K : Act → World → Prop} {ws : List Nat} (hsel : Region.noSelect l.toArray = true) : ∀ (p : Plan) (fuel : Nat) (listed : Array Bool) (a : Act) (w : World),
    p.size ≤ fuel → DC l.toArray listed → p.ok l.toArray ws listed = true → wpPl P F l K p a w → wpAnyG P F l.toArray (APost K) ws fuel listed a w := by
  have hQ : ∀ c a w (d : Option Tmp) (v : Value), APost K (.panic c) (a.put d v) w → APost K (.panic c) a w := fun _ _ _ _ _ h => h
  have getl : ∀ i, i ∈ Region.ready .any l.toArray (Array.replicate 0 false) ∨ True := fun _ => .inr trivial
  have look : ∀ {i : Nat} {listed : Array Bool}, i ∈ Region.ready .any l.toArray listed → l.toArray[i]? = some (l.getD i default) := by
    intro i listed hi
    obtain ⟨_, o, ho, _⟩ := mem_ready.1 hi
    rw [ho]
    have h1 : l[i]? = some o := by simpa using ho
    rw [List.getD_eq_getElem?_getD, h1]
    rfl
  have memr : ∀ {i : Nat} {listed : Array Bool}, (Region.ready .any l.toArray listed).contains i = true → i ∈ Region.ready .any l.toArray listed := by
    intro i listed h; simpa using h
  intro p
  induction p with
  | fin =>
    intro fuel listed a w _ _ hok h
    have hr : Region.ready .any l.toArray listed = [] := by simpa [Plan.ok] using hok
    cases fuel with
    | zero => exact ⟨hr, h⟩
    | succ n => exact ⟨fun _ => h, by rw [hr]; simp⟩
  | pur i p ih =>
    intro fuel listed a w hs hdc hok h
    simp only [Plan.ok, Bool.and_eq_true] at hok
    obtain ⟨⟨h1, h2⟩, h3⟩ := hok
    have hr := memr h1
    obtain ⟨v, hy, hrest⟩ := h
    obtain ⟨f, rfl⟩ : ∃ f, fuel = f + 1 := ⟨fuel - 1, by simp [Plan.size] at hs; omega⟩
    exact G_first (look hr) (Region.noSelect_spec hsel) (fun c a w => hQ c a w _ _) (fun _ _ _ _ => trivial) f listed a w (Region.free_spec (look hr) h2) (.inl fun _ => trivial) hdc hr hy trivial
      (ih f _ _ _ (by simp [Plan.size] at hs; omega) (hdc.step hr) h3 hrest)
  | rd i p ih =>
    intro fuel listed a w hs hdc hok h
    simp only [Plan.ok, Bool.and_eq_true] at hok
    obtain ⟨⟨⟨h1, h2⟩, h4⟩, h3⟩ := hok
    have hr := memr h1
    obtain ⟨v, hy, hrest⟩ := h
    obtain ⟨f, rfl⟩ : ∃ f, fuel = f + 1 := ⟨fuel - 1, by simp [Plan.size] at hs; omega⟩
    exact G_first (S := fun W => Kept F w W) (look hr) (Region.noSelect_spec hsel) (fun c a w => hQ c a w _ _) (fun w1 w2 h5 h6 => h5.trans h6) f listed a w (Region.free_spec (look hr) h2) (.inr h4) hdc hr hy (Kept.refl _ _)
      (ih f _ _ _ (by simp [Plan.size] at hs; omega) (hdc.step hr) h3 hrest)
  | grow i p ih =>
    intro fuel listed a w hs hdc hok h
    simp only [Plan.ok, Bool.and_eq_true] at hok
    obtain ⟨h1, h3⟩ := hok
    have hr := mem_of_eq h1
    have hmem : i ∈ Region.ready .any l.toArray listed := by rw [hr]; simp
    obtain ⟨f, rfl⟩ : ∃ f, fuel = f + 1 := ⟨fuel - 1, by simp [Plan.size] at hs; omega⟩
    refine ⟨fun h0 => (by rw [hr] at h0; cases h0), fun j hj => ?_⟩
    rw [hr, List.mem_singleton] at hj
    subst hj
    refine wpOp_of_list (look hmem) ?_ (fun _ _ _ h => h) GPost.noOut h
    exact fun a' w' h' => ⟨.inl h'.1, ih f _ _ _ (by simp [Plan.size] at hs; omega) (hdc.step hmem) h3 h'.2⟩
  | act i p ih =>
    intro fuel listed a w hs hdc hok h
    simp only [Plan.ok, Bool.and_eq_true] at hok
    obtain ⟨⟨h1, h2⟩, h3⟩ := hok
    have hr := mem_of_eq h1
    have hmem : i ∈ Region.ready .any l.toArray listed := by rw [hr]; simp
    obtain ⟨f, rfl⟩ : ∃ f, fuel = f + 1 := ⟨fuel - 1, by simp [Plan.size] at hs; omega⟩
    refine ⟨fun h0 => (by rw [hr] at h0; cases h0), fun j hj => ?_⟩
    rw [hr, List.mem_singleton] at hj
    subst hj
    refine wpOp_of_list (look hmem) ?_ (fun _ _ _ h => h) APost.noOut h
    exact fun a' w' h' => ⟨.inr (by simpa using h2), ih f _ _ _ (by simp [Plan.size] at hs; omega) (hdc.step hmem) h3 h'⟩
  | fork i j p q ihp ihq =>
    intro fuel listed a w hs hdc hok h
    simp only [Plan.ok, Bool.and_eq_true] at hok
    obtain ⟨⟨h1, h2⟩, h3⟩ := hok
    have hr : Region.ready .any l.toArray listed = [i, j] := by simpa using h1
    have hmi : i ∈ Region.ready .any l.toArray listed := by rw [hr]; simp
    have hmj : j ∈ Region.ready .any l.toArray listed := by rw [hr]; simp
    obtain ⟨f, rfl⟩ : ∃ f, fuel = f + 1 := ⟨fuel - 1, by simp [Plan.size] at hs; omega⟩
    refine ⟨fun h0 => (by rw [hr] at h0; cases h0), fun k hk => ?_⟩
    rw [hr] at hk
    rcases List.mem_cons.1 hk with hk | hk
    · subst hk
      refine wpOp_of_list (look hmi) ?_ (fun _ _ _ h => h) GPost.noOut h.1
      exact fun a' w' h' => ⟨.inl h'.1, ihp f _ _ _ (by simp [Plan.size] at hs; omega) (hdc.step hmi) h2 h'.2⟩
    · rw [List.mem_singleton] at hk
      subst hk
      refine wpOp_of_list (look hmj) ?_ (fun _ _ _ h => h) GPost.noOut h.2
      exact fun a' w' h' => ⟨.inl h'.1, ihq f _ _ _ (by simp [Plan.size] at hs; omega) (hdc.step hmj) h3 h'.2⟩
  | fork3 i j k p q r ihp ihq ihr =>
    intro fuel listed a w hs hdc hok h
    simp only [Plan.ok, Bool.and_eq_true] at hok
    obtain ⟨⟨⟨h1, h2⟩, h3⟩, h4⟩ := hok
    have hr : Region.ready .any l.toArray listed = [i, j, k] := by simpa using h1
    have hmi : i ∈ Region.ready .any l.toArray listed := by rw [hr]; simp
    have hmj : j ∈ Region.ready .any l.toArray listed := by rw [hr]; simp
    have hmk : k ∈ Region.ready .any l.toArray listed := by rw [hr]; simp
    obtain ⟨f, rfl⟩ : ∃ f, fuel = f + 1 := ⟨fuel - 1, by simp [Plan.size] at hs; omega⟩
    refine ⟨fun h0 => (by rw [hr] at h0; cases h0), fun m hm => ?_⟩
    rw [hr] at hm
    rcases List.mem_cons.1 hm with hm | hm
    · subst hm
      refine wpOp_of_list (look hmi) ?_ (fun _ _ _ h => h) GPost.noOut h.1
      exact fun a' w' h' => ⟨.inl h'.1, ihp f _ _ _ (by simp [Plan.size] at hs; omega) (hdc.step hmi) h2 h'.2⟩
    · rcases List.mem_cons.1 hm with hm | hm
      · subst hm
        refine wpOp_of_list (look hmj) ?_ (fun _ _ _ h => h) GPost.noOut h.2.1
        exact fun a' w' h' => ⟨.inl h'.1, ihq f _ _ _ (by simp [Plan.size] at hs; omega) (hdc.step hmj) h3 h'.2⟩
      · rw [List.mem_singleton] at hm
        subst hm
        refine wpOp_of_list (look hmk) ?_ (fun _ _ _ h => h) GPost.noOut h.2.2
        exact fun a' w' h' => ⟨.inl h'.1, ihr f _ _ _ (by simp [Plan.size] at hs; omega) (hdc.step hmk) h4 h'.2⟩

/-- THE RULE. -/
theorem wp_region_plan {id : Nat} {l : List Oper} {a : Act} {w : World} (F : Nat → Prop) (p : Plan) (ws : List Nat) (hm : P.follows .mixedOrders = true)
    (hok : (Region.noSelect l.toArray && p.ok l.toArray ws (Array.replicate l.toArray.size false) && decide (p.size ≤ l.toArray.size)) = true)
    (h : wpPl P F l (fun a w => Q .normal a w) p a w.drew) : (Code.region id l.toArray true).wp P Q a w := by
  simp only [Bool.and_eq_true, decide_eq_true_eq] at hok
  refine Code.wp_mono (Q := APost fun a w => Q .normal a w) (fun e a w h => ?_) (wp_region_any hm (wpAny_of_G (F := F) (ws := ws) _ _ _ _ (plan_sound hok.1.1 p _ _ _ _ hok.2 (DC.start _) hok.1.2 h)))
  cases e <;> first | exact h | exact h.elim

theorem pl_fin {l : List Oper} {K : Act → World → Prop} {a : Act} {w : World} (h : K a w) : wpPl P F l K .fin a w := h
theorem pl_pur {l : List Oper} {K : Act → World → Prop} {a : Act} {w : World} {i : Nat} {p : Plan} {o : Oper} (ho : l.getD i default = o) (v : Value)
    (hg : Region.wanted o (yielded l.toArray a.tmps) = true) (hv : ∀ W, (execOp a.eval o).run P W = .ok (.value v) W) (h : wpPl P F l K p (a.put o.dst v) w) : wpPl P F l K (.pur i p) a w := by
  subst ho
  exact ⟨v, .inl ⟨hg, fun W _ => hv W⟩, h⟩
theorem pl_rd {l : List Oper} {K : Act → World → Prop} {a : Act} {w : World} {i : Nat} {p : Plan} {o : Oper} (ho : l.getD i default = o) (v : Value)
    (hg : Region.wanted o (yielded l.toArray a.tmps) = true) (hv : ∀ W, Kept F w W → (execOp a.eval o).run P W = .ok (.value v) W) (h : wpPl P F l K p (a.put o.dst v) w) : wpPl P F l K (.rd i p) a w := by
  subst ho
  exact ⟨v, .inl ⟨hg, fun W hW => hv W hW⟩, h⟩
theorem pl_skip {l : List Oper} {K : Act → World → Prop} {a : Act} {w : World} {i : Nat} {p : Plan} {o : Oper} (ho : l.getD i default = o)
    (hg : Region.wanted o (yielded l.toArray a.tmps) = false) (h : wpPl P F l K p (a.put o.dst undef) w) : wpPl P F l K (.pur i p) a w := by
  subst ho
  exact ⟨undef, .inr ⟨hg, rfl⟩, h⟩
theorem pl_skip_rd {l : List Oper} {K : Act → World → Prop} {a : Act} {w : World} {i : Nat} {p : Plan} {o : Oper} (ho : l.getD i default = o)
    (hg : Region.wanted o (yielded l.toArray a.tmps) = false) (h : wpPl P F l K p (a.put o.dst undef) w) : wpPl P F l K (.rd i p) a w := by
  subst ho
  exact ⟨undef, .inr ⟨hg, rfl⟩, h⟩
theorem pl_skip_grow {l : List Oper} {K : Act → World → Prop} {a : Act} {w : World} {i : Nat} {p : Plan} {o : Oper} (ho : l.getD i default = o)
    (hg : Region.wanted o (yielded l.toArray a.tmps) = false) (h : wpPl P F l K p (a.put o.dst undef) w) : wpPl P F l K (.grow i p) a w := by
  subst ho
  show wpList P l.toArray (GPost F w (wpPl P F l K p)) [l.getD i default] a w
  unfold wpList
  rw [if_neg (by rw [hg]; decide)]
  simp only [wpList]
  exact ⟨Kept.refl _ _, h⟩
theorem pl_skip_act {l : List Oper} {K : Act → World → Prop} {a : Act} {w : World} {i : Nat} {p : Plan} {o : Oper} (ho : l.getD i default = o)
    (hg : Region.wanted o (yielded l.toArray a.tmps) = false) (h : wpPl P F l K p (a.put o.dst undef) w) : wpPl P F l K (.act i p) a w := by
  subst ho
  show wpList P l.toArray (APost (wpPl P F l K p)) [l.getD i default] a w
  unfold wpList
  rw [if_neg (by rw [hg]; decide)]
  simp only [wpList]
  exact h
theorem pl_grow {l : List Oper} {K : Act → World → Prop} {a : Act} {w : World} {i : Nat} {p : Plan} {o : Oper} (ho : l.getD i default = o)
    (h : wpList P l.toArray (GPost F w (wpPl P F l K p)) [o] a w) : wpPl P F l K (.grow i p) a w := by
  subst ho; exact h
theorem pl_act {l : List Oper} {K : Act → World → Prop} {a : Act} {w : World} {i : Nat} {p : Plan} {o : Oper} (ho : l.getD i default = o)
    (h : wpList P l.toArray (APost (wpPl P F l K p)) [o] a w) : wpPl P F l K (.act i p) a w := by
  subst ho; exact h
end
end Go.Proofs.Ytfnecdkfhackkaa
