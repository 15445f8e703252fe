/- slices.Clone: a row of its own that reads the same. -/
import Derived.Test.YtnmjholnnnclcaaVec
set_option linter.unusedVariables false
set_option linter.unusedSimpArgs false
namespace Go.Proofs.Ytnmjholnnnclcaa
open Go.RowKit
theorem cinfo_u64 : (Try.prog.info? 28).map (fun i => (i.zero, i.size, i.bytes)) = some (some (.int .u64 0), 1, 8) := by kernel_rfl
theorem clone_u64 {α : Type} (d : Kd α) (hsz : d.sz = 1) (v : Value) (xs : List α) (w : World) (F : Nat → Prop) (h : Sl d w F v xs) (hF : ∀ k, F k → k < w.heap.size) (hb : xs.length * 8 ≤ 140737488355328) :
    Calls Try.prog 23 #[v] w fun e w' => ∃ v', e = .returned v' ∧ TW d 28 w' F v' xs ∧ Fresh w v' ∧ Kept No w w' := by
  obtain ⟨A, c, rfl, hl, hm⟩ := h.slice
  have hq := fun (w : World) (a : Option Addr) (n c : Nat) => Lib.run_eql_slice_nil (P := Try.prog) w 26 28 a n c 0 0 Try.underlying26
  obtain ⟨cs, hs, hr⟩ := h
  cases A with
  | none =>
    have h0 : xs = [] := by
      obtain ⟨A', c', hv, h1, h2, h3, h4, h5⟩ := hs
      simp only [Value.slice.injEq] at hv
      rcases Nat.eq_zero_or_pos cs.length with hz | hz
      · rw [hz] at h3
        have : xs.length = 0 := by rcases Nat.mul_eq_zero.1 h3.symm with h | h; exact h; omega
        exact List.eq_nil_of_length_eq_zero this
      · obtain ⟨b, off, ho, _⟩ := h5 hz
        rw [← hv.1] at ho
        cases ho
    subst h0
    go_enter Try.func23, Try.ntmps23
    go_wp2
    go_ret
    exact ⟨_, rfl, TW.nil _ _ _ _, Fresh.nil _, Kept.refl _ _⟩
  | some a =>
    obtain ⟨n, hn⟩ : ∃ n, n = xs.length := ⟨_, rfl⟩
    rw [← hn] at hl hs hb ⊢
    have HN : Hid (n = xs.length) := hn
    clear hn
    simp only [maxLen] at hm
    have hmv : ∀ k, F k → k < w.heap.size → (w.alloc (.cells #[] 28)).heap[k]? = w.heap[k]? := fun k _ hk => Below.heap_alloc _ _ _ hk
    have hs' := hs.move hmv
    have hr' : Reps (d.K (w.alloc (.cells #[] 28)) F) d.sz xs cs := hr.imp fun _ _ => d.move hmv
    have ht : TW d 28 (w.alloc (.cells #[] 28)) F (.slice (some ⟨w.heap.size, 0, none⟩) 0 0) [] := TW.empty (heap_alloc_new _ _) (fun h => absurd (hF _ h) (Nat.lt_irrefl _))
    have hF2 : ∀ k, F k → k < (w.alloc (.cells #[] 28)).heap.size := fun k hk => by have := hF k hk; simp; omega
    have HH : Hid (Src (w.alloc (.cells #[] 28)) F d.sz (.slice (some a) n c) n cs ∧ Reps (d.K (w.alloc (.cells #[] 28)) F) d.sz xs cs ∧ TW d 28 (w.alloc (.cells #[] 28)) F (.slice (some ⟨w.heap.size, 0, none⟩) 0 0) [] ∧ ∀ k, F k → k < (w.alloc (.cells #[] 28)).heap.size) := ⟨hs', hr', ht, hF2⟩
    clear hs hr hs' hr' ht hF2 hmv hF
    go_enter Try.func23, Try.ntmps23
    go_wp2_with (at_builtin; refine wpList_append_tw (d := d) (F := F) rfl (.tmp 5) (.tmp 6) 26 rfl 28 (.int .u64 0) 8 Try.underlying26 (by rw [hsz]; exact cinfo_u64) (by rw [hsz]; rfl) _ _ n [] xs cs rfl HH.out.2.2.1 rfl HH.out.1 HH.out.2.1 HN.out.symm HH.out.2.2.2 ?_ ?_ ?_)
    · simp only [maxLen, List.length_nil]; omega
    · simpa using hb
    · intro v' w' htw hke hb2
      have hf : Fresh w v' := (show Fresh w (.slice (some ⟨w.heap.size, 0, none⟩) 0 0) from fun k hk => by simp [Value.ownBlock] at hk; omega).next (w := w.alloc (.cells #[] 28)) (by simp) (by simpa using hb2)
      have hk2 : Kept No w w' := ((Kept.refl No w).alloc (.cells #[] 28)).fresh hke (fun k hk => by simp [Value.ownBlock] at hk; omega)
      clear hke hb2 HH hb hq
      go_wp2
      go_ret
      exact ⟨_, rfl, htw, hf, hk2⟩
theorem cinfo_u8 : (Try.prog.info? 5).map (fun i => (i.zero, i.size, i.bytes)) = some (some (.int .u8 0), 1, 1) := by kernel_rfl
theorem clone_u8 {α : Type} (d : Kd α) (hsz : d.sz = 1) (v : Value) (xs : List α) (w : World) (F : Nat → Prop) (h : Sl d w F v xs) (hF : ∀ k, F k → k < w.heap.size) (hb : xs.length * 1 ≤ 140737488355328) :
    Calls Try.prog 25 #[v] w fun e w' => ∃ v', e = .returned v' ∧ TW d 5 w' F v' xs ∧ Fresh w v' ∧ Kept No w w' := by
  obtain ⟨A, c, rfl, hl, hm⟩ := h.slice
  have hq := fun (w : World) (a : Option Addr) (n c : Nat) => Lib.run_eql_slice_nil (P := Try.prog) w 31 5 a n c 0 0 Try.underlying31
  obtain ⟨cs, hs, hr⟩ := h
  cases A with
  | none =>
    have h0 : xs = [] := by
      obtain ⟨A', c', hv, h1, h2, h3, h4, h5⟩ := hs
      simp only [Value.slice.injEq] at hv
      rcases Nat.eq_zero_or_pos cs.length with hz | hz
      · rw [hz] at h3
        have : xs.length = 0 := by rcases Nat.mul_eq_zero.1 h3.symm with h | h; exact h; omega
        exact List.eq_nil_of_length_eq_zero this
      · obtain ⟨b, off, ho, _⟩ := h5 hz
        rw [← hv.1] at ho
        cases ho
    subst h0
    go_enter Try.func25, Try.ntmps25
    go_wp2
    go_ret
    exact ⟨_, rfl, TW.nil _ _ _ _, Fresh.nil _, Kept.refl _ _⟩
  | some a =>
    obtain ⟨n, hn⟩ : ∃ n, n = xs.length := ⟨_, rfl⟩
    rw [← hn] at hl hs hb ⊢
    have HN : Hid (n = xs.length) := hn
    clear hn
    simp only [maxLen] at hm
    have hmv : ∀ k, F k → k < w.heap.size → (w.alloc (.cells #[] 5)).heap[k]? = w.heap[k]? := fun k _ hk => Below.heap_alloc _ _ _ hk
    have hs' := hs.move hmv
    have hr' : Reps (d.K (w.alloc (.cells #[] 5)) F) d.sz xs cs := hr.imp fun _ _ => d.move hmv
    have ht : TW d 5 (w.alloc (.cells #[] 5)) F (.slice (some ⟨w.heap.size, 0, none⟩) 0 0) [] := TW.empty (heap_alloc_new _ _) (fun h => absurd (hF _ h) (Nat.lt_irrefl _))
    have hF2 : ∀ k, F k → k < (w.alloc (.cells #[] 5)).heap.size := fun k hk => by have := hF k hk; simp; omega
    have HH : Hid (Src (w.alloc (.cells #[] 5)) F d.sz (.slice (some a) n c) n cs ∧ Reps (d.K (w.alloc (.cells #[] 5)) F) d.sz xs cs ∧ TW d 5 (w.alloc (.cells #[] 5)) F (.slice (some ⟨w.heap.size, 0, none⟩) 0 0) [] ∧ ∀ k, F k → k < (w.alloc (.cells #[] 5)).heap.size) := ⟨hs', hr', ht, hF2⟩
    clear hs hr hs' hr' ht hF2 hmv hF
    go_enter Try.func25, Try.ntmps25
    go_wp2_with (at_builtin; refine wpList_append_tw (d := d) (F := F) rfl (.tmp 5) (.tmp 6) 31 rfl 5 (.int .u8 0) 1 Try.underlying31 (by rw [hsz]; exact cinfo_u8) (by rw [hsz]; rfl) _ _ n [] xs cs rfl HH.out.2.2.1 rfl HH.out.1 HH.out.2.1 HN.out.symm HH.out.2.2.2 ?_ ?_ ?_)
    · simp only [maxLen, List.length_nil]; omega
    · simpa using hb
    · intro v' w' htw hke hb2
      have hf : Fresh w v' := (show Fresh w (.slice (some ⟨w.heap.size, 0, none⟩) 0 0) from fun k hk => by simp [Value.ownBlock] at hk; omega).next (w := w.alloc (.cells #[] 5)) (by simp) (by simpa using hb2)
      have hk2 : Kept No w w' := ((Kept.refl No w).alloc (.cells #[] 5)).fresh hke (fun k hk => by simp [Value.ownBlock] at hk; omega)
      clear hke hb2 HH hb hq
      go_wp2
      go_ret
      exact ⟨_, rfl, htw, hf, hk2⟩
end Go.Proofs.Ytnmjholnnnclcaa
