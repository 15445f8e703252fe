/- slices.Clone: a row of its own that reads the same. -/
import Derived.Test.YtjokkmhndahnkaaVec
set_option linter.unusedVariables false
set_option linter.unusedSimpArgs false
namespace Go.Proofs.Ytjokkmhndahnkaa
open Go.RowKit
theorem cinfo_ids : (Try.prog.info? 33).map (fun i => (i.zero, i.size, i.bytes)) = some (some (.agg #[.int .u8 0,.int .u64 0]), 2, 16) := by kernel_rfl
theorem clone_ids {α : Type} (d : Kd α) (hsz : d.sz = 2) (v : Value) (xs : List α) (w : World) (F : Nat → Prop) (h : Sl d w F v xs) (hF : ∀ k, F k → k < w.heap.size) (hb : xs.length * 16 ≤ 140737488355328) :
    Calls Try.prog 28 #[v] w fun e w' => ∃ v', e = .returned v' ∧ TW d 33 w' F v' xs ∧ Fresh w v' ∧ Kept No w w' := by
  obtain ⟨A, c, rfl, hl, hm⟩ := h.slice
  have hq := fun (w : World) (a : Option Addr) (n c : Nat) => Lib.run_eql_slice_nil (P := Try.prog) w 22 33 a n c 0 0 Try.underlying22
  obtain ⟨cs, hs, hr⟩ := h
  cases A with
  | none =>
    have h0 : xs = [] := by
      obtain ⟨A', c', hv, h1, h2, h3, h4, h5⟩ := hs
      simp only [Value.slice.injEq] at hv
      rcases Nat.eq_zero_or_pos cs.length with hz | hz
      · rw [hz] at h3
        have : xs.length = 0 := by rcases Nat.mul_eq_zero.1 h3.symm with h | h; exact h; omega
        exact List.eq_nil_of_length_eq_zero this
      · obtain ⟨b, off, ho, _⟩ := h5 hz
        rw [← hv.1] at ho
        cases ho
    subst h0
    go_enter Try.func28, Try.ntmps28
    go_wp2
    go_ret
    exact ⟨_, rfl, TW.nil _ _ _ _, Fresh.nil _, Kept.refl _ _⟩
  | some a =>
    obtain ⟨n, hn⟩ : ∃ n, n = xs.length := ⟨_, rfl⟩
    rw [← hn] at hl hs hb ⊢
    have HN : Hid (n = xs.length) := hn
    clear hn
    simp only [maxLen] at hm
    have hmv : ∀ k, F k → k < w.heap.size → (w.alloc (.cells #[] 33)).heap[k]? = w.heap[k]? := fun k _ hk => Below.heap_alloc _ _ _ hk
    have hs' := hs.move hmv
    have hr' : Reps (d.K (w.alloc (.cells #[] 33)) F) d.sz xs cs := hr.imp fun _ _ => d.move hmv
    have ht : TW d 33 (w.alloc (.cells #[] 33)) F (.slice (some ⟨w.heap.size, 0, none⟩) 0 0) [] := TW.empty (heap_alloc_new _ _) (fun h => absurd (hF _ h) (Nat.lt_irrefl _))
    have hF2 : ∀ k, F k → k < (w.alloc (.cells #[] 33)).heap.size := fun k hk => by have := hF k hk; simp; omega
    have HH : Hid (Src (w.alloc (.cells #[] 33)) F d.sz (.slice (some a) n c) n cs ∧ Reps (d.K (w.alloc (.cells #[] 33)) F) d.sz xs cs ∧ TW d 33 (w.alloc (.cells #[] 33)) F (.slice (some ⟨w.heap.size, 0, none⟩) 0 0) [] ∧ ∀ k, F k → k < (w.alloc (.cells #[] 33)).heap.size) := ⟨hs', hr', ht, hF2⟩
    clear hs hr hs' hr' ht hF2 hmv hF
    go_enter Try.func28, Try.ntmps28
    go_wp2_with (at_builtin; refine wpList_append_tw (d := d) (F := F) rfl (.tmp 5) (.tmp 6) 22 rfl 33 (.agg #[.int .u8 0,.int .u64 0]) 16 Try.underlying22 (by rw [hsz]; exact cinfo_ids) (by rw [hsz]; rfl) _ _ n [] xs cs rfl HH.out.2.2.1 rfl HH.out.1 HH.out.2.1 HN.out.symm HH.out.2.2.2 ?_ ?_ ?_)
    · simp only [maxLen, List.length_nil]; omega
    · simpa using hb
    · intro v' w' htw hke hb2
      have hf : Fresh w v' := (show Fresh w (.slice (some ⟨w.heap.size, 0, none⟩) 0 0) from fun k hk => by simp [Value.ownBlock] at hk; omega).next (w := w.alloc (.cells #[] 33)) (by simp) (by simpa using hb2)
      have hk2 : Kept No w w' := ((Kept.refl No w).alloc (.cells #[] 33)).fresh hke (fun k hk => by simp [Value.ownBlock] at hk; omega)
      clear hke hb2 HH hb hq
      go_wp2
      go_ret
      exact ⟨_, rfl, htw, hf, hk2⟩
end Go.Proofs.Ytjokkmhndahnkaa
