/- slices.Clone: a row of its own that reads the same. -/
import Derived.Test.YtfnecdkfhackkaaVec
set_option linter.unusedVariables false
set_option linter.unusedSimpArgs false
namespace Go.Proofs.Ytfnecdkfhackkaa
open Go.RowKit
theorem cinfo_u64 : (Try.prog.info? 26).map (fun i => (i.zero, i.size, i.bytes)) = some (some (.int .u64 0), 1, 8) := by kernel_rfl
theorem clone_u64 {α : Type} (d : Kd α) (hsz : d.sz = 1) (v : Value) (xs : List α) (w : World) (F : Nat → Prop) (h : Sl d w F v xs) (hF : ∀ k, F k → k < w.heap.size) (hb : xs.length * 8 ≤ 140737488355328) :
    Calls Try.prog 50 #[v] w fun e w' => ∃ v', e = .returned v' ∧ TW d 26 w' F v' xs ∧ Fresh w v' ∧ Kept No w w' := by
  obtain ⟨A, c, rfl, hl, hm⟩ := h.slice
  have hq := fun (w : World) (a : Option Addr) (n c : Nat) => Lib.run_eql_slice_nil (P := Try.prog) w 27 26 a n c 0 0 Try.underlying27
  obtain ⟨cs, hs, hr⟩ := h
  cases A with
  | none =>
    have h0 : xs = [] := by
      obtain ⟨A', c', hv, h1, h2, h3, h4, h5⟩ := hs
      simp only [Value.slice.injEq] at hv
      rcases Nat.eq_zero_or_pos cs.length with hz | hz
      · rw [hz] at h3
        have : xs.length = 0 := by rcases Nat.mul_eq_zero.1 h3.symm with h | h; exact h; omega
        exact List.eq_nil_of_length_eq_zero this
      · obtain ⟨b, off, ho, _⟩ := h5 hz
        rw [← hv.1] at ho
        cases ho
    subst h0
    go_enter Try.func50, Try.ntmps50
    go_wp2
    go_ret
    exact ⟨_, rfl, TW.nil _ _ _ _, Fresh.nil _, Kept.refl _ _⟩
  | some a =>
    obtain ⟨n, hn⟩ : ∃ n, n = xs.length := ⟨_, rfl⟩
    rw [← hn] at hl hs hb ⊢
    have HN : Hid (n = xs.length) := hn
    clear hn
    simp only [maxLen] at hm
    have hmv : ∀ k, F k → k < w.heap.size → (w.alloc (.cells #[] 26)).heap[k]? = w.heap[k]? := fun k _ hk => Below.heap_alloc _ _ _ hk
    have hs' := hs.move hmv
    have hr' : Reps (d.K (w.alloc (.cells #[] 26)) F) d.sz xs cs := hr.imp fun _ _ => d.move hmv
    have ht : TW d 26 (w.alloc (.cells #[] 26)) F (.slice (some ⟨w.heap.size, 0, none⟩) 0 0) [] := TW.empty (heap_alloc_new _ _) (fun h => absurd (hF _ h) (Nat.lt_irrefl _))
    have hF2 : ∀ k, F k → k < (w.alloc (.cells #[] 26)).heap.size := fun k hk => by have := hF k hk; simp; omega
    have HH : Hid (Src (w.alloc (.cells #[] 26)) F d.sz (.slice (some a) n c) n cs ∧ Reps (d.K (w.alloc (.cells #[] 26)) F) d.sz xs cs ∧ TW d 26 (w.alloc (.cells #[] 26)) F (.slice (some ⟨w.heap.size, 0, none⟩) 0 0) [] ∧ ∀ k, F k → k < (w.alloc (.cells #[] 26)).heap.size) := ⟨hs', hr', ht, hF2⟩
    clear hs hr hs' hr' ht hF2 hmv hF
    go_enter Try.func50, Try.ntmps50
    go_wp2_with (at_builtin; refine wpList_append_tw (d := d) (F := F) rfl (.tmp 5) (.tmp 6) 27 rfl 26 (.int .u64 0) 8 Try.underlying27 (by rw [hsz]; exact cinfo_u64) (by rw [hsz]; rfl) _ _ n [] xs cs rfl HH.out.2.2.1 rfl HH.out.1 HH.out.2.1 HN.out.symm HH.out.2.2.2 ?_ ?_ ?_)
    · simp only [maxLen, List.length_nil]; omega
    · simpa using hb
    · intro v' w' htw hke hb2
      have hf : Fresh w v' := (show Fresh w (.slice (some ⟨w.heap.size, 0, none⟩) 0 0) from fun k hk => by simp [Value.ownBlock] at hk; omega).next (w := w.alloc (.cells #[] 26)) (by simp) (by simpa using hb2)
      have hk2 : Kept No w w' := ((Kept.refl No w).alloc (.cells #[] 26)).fresh hke (fun k hk => by simp [Value.ownBlock] at hk; omega)
      clear hke hb2 HH hb hq
      go_wp2
      go_ret
      exact ⟨_, rfl, htw, hf, hk2⟩
theorem cinfo_row : (Try.prog.info? 80).map (fun i => (i.zero, i.size, i.bytes)) = some (some (.agg #[.int .u64 0,.slice none 0 0,.slice none 0 0,.bool false]), 4, 64) := by kernel_rfl
theorem clone_row {α : Type} (d : Kd α) (hsz : d.sz = 4) (v : Value) (xs : List α) (w : World) (F : Nat → Prop) (h : Sl d w F v xs) (hF : ∀ k, F k → k < w.heap.size) (hb : xs.length * 64 ≤ 140737488355328) :
    Calls Try.prog 66 #[v] w fun e w' => ∃ v', e = .returned v' ∧ TW d 80 w' F v' xs ∧ Fresh w v' ∧ Kept No w w' := by
  obtain ⟨A, c, rfl, hl, hm⟩ := h.slice
  have hq := fun (w : World) (a : Option Addr) (n c : Nat) => Lib.run_eql_slice_nil (P := Try.prog) w 76 80 a n c 0 0 Try.underlying76
  obtain ⟨cs, hs, hr⟩ := h
  cases A with
  | none =>
    have h0 : xs = [] := by
      obtain ⟨A', c', hv, h1, h2, h3, h4, h5⟩ := hs
      simp only [Value.slice.injEq] at hv
      rcases Nat.eq_zero_or_pos cs.length with hz | hz
      · rw [hz] at h3
        have : xs.length = 0 := by rcases Nat.mul_eq_zero.1 h3.symm with h | h; exact h; omega
        exact List.eq_nil_of_length_eq_zero this
      · obtain ⟨b, off, ho, _⟩ := h5 hz
        rw [← hv.1] at ho
        cases ho
    subst h0
    go_enter Try.func66, Try.ntmps66
    go_wp2
    go_ret
    exact ⟨_, rfl, TW.nil _ _ _ _, Fresh.nil _, Kept.refl _ _⟩
  | some a =>
    obtain ⟨n, hn⟩ : ∃ n, n = xs.length := ⟨_, rfl⟩
    rw [← hn] at hl hs hb ⊢
    have HN : Hid (n = xs.length) := hn
    clear hn
    simp only [maxLen] at hm
    have hmv : ∀ k, F k → k < w.heap.size → (w.alloc (.cells #[] 80)).heap[k]? = w.heap[k]? := fun k _ hk => Below.heap_alloc _ _ _ hk
    have hs' := hs.move hmv
    have hr' : Reps (d.K (w.alloc (.cells #[] 80)) F) d.sz xs cs := hr.imp fun _ _ => d.move hmv
    have ht : TW d 80 (w.alloc (.cells #[] 80)) F (.slice (some ⟨w.heap.size, 0, none⟩) 0 0) [] := TW.empty (heap_alloc_new _ _) (fun h => absurd (hF _ h) (Nat.lt_irrefl _))
    have hF2 : ∀ k, F k → k < (w.alloc (.cells #[] 80)).heap.size := fun k hk => by have := hF k hk; simp; omega
    have HH : Hid (Src (w.alloc (.cells #[] 80)) F d.sz (.slice (some a) n c) n cs ∧ Reps (d.K (w.alloc (.cells #[] 80)) F) d.sz xs cs ∧ TW d 80 (w.alloc (.cells #[] 80)) F (.slice (some ⟨w.heap.size, 0, none⟩) 0 0) [] ∧ ∀ k, F k → k < (w.alloc (.cells #[] 80)).heap.size) := ⟨hs', hr', ht, hF2⟩
    clear hs hr hs' hr' ht hF2 hmv hF
    go_enter Try.func66, Try.ntmps66
    go_wp2_with (at_builtin; refine wpList_append_tw (d := d) (F := F) rfl (.tmp 5) (.tmp 6) 76 rfl 80 (.agg #[.int .u64 0,.slice none 0 0,.slice none 0 0,.bool false]) 64 Try.underlying76 (by rw [hsz]; exact cinfo_row) (by rw [hsz]; rfl) _ _ n [] xs cs rfl HH.out.2.2.1 rfl HH.out.1 HH.out.2.1 HN.out.symm HH.out.2.2.2 ?_ ?_ ?_)
    · simp only [maxLen, List.length_nil]; omega
    · simpa using hb
    · intro v' w' htw hke hb2
      have hf : Fresh w v' := (show Fresh w (.slice (some ⟨w.heap.size, 0, none⟩) 0 0) from fun k hk => by simp [Value.ownBlock] at hk; omega).next (w := w.alloc (.cells #[] 80)) (by simp) (by simpa using hb2)
      have hk2 : Kept No w w' := ((Kept.refl No w).alloc (.cells #[] 80)).fresh hke (fun k hk => by simp [Value.ownBlock] at hk; omega)
      clear hke hb2 HH hb hq
      go_wp2
      go_ret
      exact ⟨_, rfl, htw, hf, hk2⟩
end Go.Proofs.Ytfnecdkfhackkaa
