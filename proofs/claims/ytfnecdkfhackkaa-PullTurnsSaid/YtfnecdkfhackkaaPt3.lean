/- PullTurns: what the walk leans on. -/
import Derived.Test.YtfnecdkfhackkaaPt2
set_option linter.unusedVariables false
set_option linter.unusedSimpArgs false
namespace Go.Proofs.Ytfnecdkfhackkaa
open Go.RowKit
theorem Sl.boolAt {w : World} {F : Nat → Prop} {v : Value} {xs : List Bool} (h : Sl kB w F v xs) {j : Nat} {x : Bool} (hx : xs[j]? = some x) :
    ∃ b off c, v = .slice (some ⟨b, off, none⟩) xs.length c ∧ w.cell? ⟨b, off + j, none⟩ = some (.bool x) ∧ j < xs.length := by
  have hj := (List.getElem?_eq_some_iff.1 hx).1
  rcases Sl.cases (Nat.one_pos) h with ⟨rfl, _⟩ | ⟨h0, h1, b, off, c, hv, h2, h3, hF, hb, hc⟩
  · simp at hj
  · obtain ⟨cs, ⟨rfl, hr⟩, hcell⟩ := hc j x hx
    have := hcell 0 _ rfl
    simp only [kB, flat, Nat.mul_one, Nat.add_zero] at this
    exact ⟨b, off, c, hv, this, hj⟩
theorem metStart {w : World} {mb c : Nat} (ht : TW (kI .i64) 3 w No (.slice (some ⟨mb, 0, none⟩) 20 c) (List.replicate 20 0)) (hx : ∃ cur, w.heap[mb]? = some (.cells cur 3 (0, 0)) ∧ cur.size = 20 * 1) :
    (∃ cur, w.heap[mb]? = some (.cells cur 3 (0, 0))) ∧ ∀ j, j < 20 → w.cell? ⟨mb, j, none⟩ = some (.int .i64 0) := by
  obtain ⟨cur, h1, _⟩ := hx
  refine ⟨⟨cur, h1⟩, fun j hj => ?_⟩
  have h := (tw_int ht (j := j) (x := 0) (by rw [List.getElem?_replicate, if_pos hj])).2
  rw [Nat.zero_add] at h
  exact h
/-- The counters. -/
def MetAt (w : World) (mb : Nat) (met : Nat → Nat) : Prop := (∃ cur, w.heap[mb]? = some (.cells cur 3 (0, 0))) ∧ ∀ j, j < 20 → w.cell? ⟨mb, j, none⟩ = some (.int .i64 (met j : Nat))
section
variable {w0 w w1 : World} {b rb px n mb : Nat} {R : List Row} {G O : Nat → Prop} {x : PS} {met : Nat → Nat}
theorem MetAt.kept {P : Nat → Prop} (h : MetAt w mb met) (hk : Kept P w w1) (hp : ¬ P mb) : MetAt w1 mb met := by
  obtain ⟨⟨cur, h1⟩, h2⟩ := h
  exact ⟨⟨cur, (hk.block _ (lt_of_heap h1) hp).trans h1⟩, fun j hj => hk.cell (h2 j hj) hp⟩
theorem MetAt.fro (h : MetAt w mb met) (j : Nat) : w.frozen? ⟨mb, j, none⟩ = false := by
  obtain ⟨⟨cur, h1⟩, _⟩ := h
  exact frozen_of_row w mb j _ _ h1
theorem MetAt.put {q : Nat} (h : MetAt w mb met) (hq : q < 20) : MetAt (w.setCell ⟨mb, q, none⟩ (.int .i64 ((met q + 1 : Nat) : Int))) mb (fun x => if x = q then met x + 1 else met x) := by
  obtain ⟨⟨cur, h1⟩, h2⟩ := h
  refine ⟨⟨_, heap_setCell_same w mb q _ 3 _ h1⟩, fun j hj => ?_⟩
  by_cases hjq : j = q
  · subst hjq
    simp only [if_true]
    exact World.cell?_setCell_same _ _ _ (h2 j hj)
  · simp only [if_neg hjq]
    rw [World.cell?_setCell_other _ _ _ _ (fun e => hjq (by injection e with _ e2; exact e2.symm))]
    exact h2 j hj
theorem Duo.put (h : Duo w0 w b rb px n R G O x) (hk : Kept (fun k => k = mb) w w1) (h1 : mb ≠ b) (h2 : mb ≠ rb) (h3 : ¬ G mb) (h4 : ¬ O mb) (h5 : w0.heap.size ≤ mb) : Duo w0 w1 b rb px n R G O x :=
  ⟨h.m.kept hk h1.symm h2.symm (fun k hg e => h3 (by have e : k = mb := e; exact e ▸ hg)), h.p.kept hk (fun k ho e => h4 (by have e : k = mb := e; exact e ▸ ho)), h.dis, fun k ho => ⟨(h.ol k ho).1, Nat.lt_of_lt_of_le (h.ol k ho).2 hk.size⟩, h.lb, h.k.trans2 hk (fun i hi e => by have e : i = mb := e; omega), h.ok⟩
theorem duo_next2 (w : World) (h : Duo w0 w b rb px n R G O x) (now : Int) (vh vs : Value) (held skip : List Int) {F : Nat → Prop} (hF : ∀ k, F k → k < w.heap.size ∧ ¬ O k) (hh : Sl (kI .u64) w F vh held) (hs : Sl (kI .i64) w F vs skip)
    {y : PS} {id : Int × Int} {p : Int} {ok : Bool} (hn : nextI x ⟨held, n, R, skip⟩ now = (y, id, p, ok)) :
    Calls Try.prog 39 #[.pointer (some ⟨px, 0, none⟩), .int .i64 now, vh, .pointer (some ⟨b, 0, none⟩), vs] w fun e w' => e = .returned (.tuple #[.agg #[.int .u8 id.1, .int .u64 id.2], .int .i64 p, .bool ok]) ∧ (∃ O', Duo w0 w' b rb px n R G O' y ∧ ∀ k, O' k → O k ∨ w.heap.size ≤ k) ∧ Kept O w w' := by
  refine (next_any (w := w) (e := ⟨held, n, R, skip⟩) (vh := vh) (vs := vs) (F := F) (O := O) x h.ok px ⟨h.m, hh, hs, fun k hk => (hF k hk).1⟩ h.p
    (fun k ho => ⟨(h.dis k ho).1, (h.dis k ho).2.1, (h.dis k ho).2.2, fun e => (hF k e).2 ho⟩) (fun k ho => (h.ol k ho).2) now).mono ?_
  have hok := nextI_ok h.ok ⟨held, n, R, skip⟩ now
  rw [hn] at hok ⊢
  rintro e w' ⟨h1, h2, h3⟩
  have hbl := h.m.lt
  refine ⟨h1, ⟨_, ⟨h.m.kept h3 (fun e => (h.dis _ e).1 rfl) (fun e => (h.dis _ e).2.1 rfl) (fun k hg e => (h.dis _ e).2.2 hg), h2, fun k ho => ?_, fun k ho => ?_, h.lb, h.k.trans2 h3 (fun i hi e => by have := (h.ol _ e).1; omega), hok⟩, fun k ho => ho.elim .inl (fun e => .inr e.1)⟩, h3⟩
  · rcases ho with ho | ho
    · exact h.dis k ho
    · have := ho.1
      exact ⟨by omega, by omega, fun e => by have := h.m.glt _ e; omega⟩
  · rcases ho with ho | ho
    · exact ⟨(h.ol k ho).1, Nat.lt_of_lt_of_le (h.ol k ho).2 h3.size⟩
    · have := h.k.size; have := ho.1; have := ho.2; exact ⟨by omega, by omega⟩
end
theorem cnt_le (u : Nat → Bool) (m : Nat) : cnt u m ≤ m := by
  induction m with
  | zero => exact Nat.le_refl _
  | succ m ih => simp only [cnt]; have : bn (u m) ≤ 1 := by unfold bn; split <;> omega
                 omega
end Go.Proofs.Ytfnecdkfhackkaa
