/- The package pull, general: Next, that asks nobody. -/
import Derived.Test.YtfnecdkfhackkaaPg5
set_option linter.unusedVariables false
set_option linter.unusedSimpArgs false
namespace Go.Proofs.Ytfnecdkfhackkaa
open Go.RowKit

set_option maxRecDepth 20000 in
set_option maxHeartbeats 8000000 in
theorem next_nobody {w : World} {e : PE} {vh vs : Value} {b rb : Nat} {G F O : Nat → Prop} (x : PS) (hx : x.ok) (px : Nat) (hE : Env w e vh vs b rb G F) (ho : O px) (hO : ∀ k, O k → k ≠ b ∧ k ≠ rb ∧ ¬ G k ∧ ¬ F k) (hOl : ∀ k, O k → k < w.heap.size) (now T : Int) (hT : nowI now = T)
    (hP : PxIs w px x (.pointer none)) (hw : x.want = none) (hfind : (ringN x.n x.sender).find? (fun s => lacksI x e s (nextS e s)) = none)
    : Calls Try.prog 39 #[.pointer (some ⟨px, 0, none⟩), .int .i64 now, vh, .pointer (some ⟨b, 0, none⟩), vs] w fun r w' => NextOut w w' px O r (x : PS) (0, 0) (-1) false := by
  have hmm : max 0 (min now 1099511627776) = T := hT
  have hpl := hOl px ho
  have HT : Hid (∀ W, Kept O (w.alloc (.cells #[.int .u8 0, .int .u64 0] 40)) W → Kept O w W ∧ Rc w W) := by
    intro W hW
    have h := heap_alloc_new w (.cells #[.int .u8 0, .int .u64 0] 40)
    exact ⟨((Kept.refl _ w).alloc _).trans hW, (hW.block _ (lt_of_heap h) (fun e => absurd (hOl _ e) (Nat.lt_irrefl _))).trans h⟩
  have HE : Hid (∀ W, Kept O w W → Env W e vh vs b rb G F) := fun W hW => hE.kept hW (fun h => (hO _ h).1 rfl) (fun h => (hO _ h).2.1 rfl) (fun k hg ho => (hO _ ho).2.2.1 hg) (fun k hf ho => (hO _ ho).2.2.2 hf)
  have HD : Hid (px ≠ b ∧ px ≠ rb ∧ (∀ k, G k → k ≠ px) ∧ (∀ k, F k → k ≠ px)) := ⟨(hO _ ho).1, (hO _ ho).2.1, fun k hg e => (hO _ ho).2.2.1 (e ▸ hg), fun k hf e => (hO _ ho).2.2.2 (e ▸ hf)⟩
  have HO : Hid (O px ∧ x.ok ∧ (∀ k, O k → k < w.heap.size)) := ⟨ho, hx, hOl⟩
  clear hE hO hx
  have HF' : Hid (PxIs w px x (.pointer none) ∧ (ringN x.n x.sender).find? (fun s => lacksI x e s (nextS e s)) = none ∧ x.want = none) := ⟨hP, hfind, hw⟩
  have p3 := hP.cell.2.2.2.1
  have k0 : Kept No w (w.alloc (.cells #[.int .u8 0, .int .u64 0] 40)) := (Kept.refl _ _).alloc _
  have hC := choose_any x HO.out.2.1 px (HF'.out.1.kept k0 id) ((HE.out w (Kept.refl _ _)).new k0) HD.out
  clear hP hfind hw k0 hT
  go_enter Try.func39, Try.ntmps39
  go_wp2_with (go_at_call 57; go_must ((with_reducible refine hC.mono ?_); rintro r w1 ⟨rfl, _, _, hnone⟩; have hk1 := hnone HF'.out.2.1; obtain ⟨k1, h3⟩ := HT.out w1 hk1.no; have h1 := (HF'.out.1.kept ((Kept.refl No w).alloc (.cells #[.int .u8 0, .int .u64 0] 40)) id).kept hk1 id; have q3 := h1.cell.2.2.2.1; have KW : Hid (Kept O w w1 ∧ Rc w w1) := ⟨k1, h3⟩; have HPA : Hid (PullAt w1 px O x) := ⟨_, h1, HO.out.1, (by rw [HF'.out.2.2])⟩; clear hC hnone hk1 k1 h3 h1 p3))
  all_goals
    refine wp_region_plan No (.pur 0 (.pur 1 (.pur 2 (.pur 3 (.pur 4 (.pur 5 (.rd 6 (.pur 7 (.pur 8 (.pur 9 (.pur 10 (.pur 11 (.pur 14 (.pur 15 (.pur 16 (.rd 12 (.pur 13 (.rd 17 (.pur 18 (.pur 19 (.pur 20 .fin))))))))))))))))))))) [] mixed (by kernel_rfl) ?_
    repeat ((first | refine pl_pur (by simp only [List.getD_cons_succ, List.getD_cons_zero]; rfl) _ (by rfl) (fun W => by go_simp; with_reducible rfl) ?_ | refine pl_rd (by simp only [List.getD_cons_succ, List.getD_cons_zero]; rfl) _ (by rfl) (fun W hW => by have hc := hW.cell ((show w1.drew.cell? ⟨px, 3, none⟩ = some (.pointer none) from q3)) id; clear hW; go_simp; with_reducible rfl) ?_ | refine pl_skip (by simp only [List.getD_cons_succ, List.getD_cons_zero]; rfl) (by rfl) ?_ | refine pl_skip_rd (by simp only [List.getD_cons_succ, List.getD_cons_zero]; rfl) (by rfl) ?_ | refine pl_skip_grow (by simp only [List.getD_cons_succ, List.getD_cons_zero]; rfl) (by rfl) ?_ | refine pl_skip_act (by simp only [List.getD_cons_succ, List.getD_cons_zero]; rfl) (by rfl) ?_); simp only [Act.put, List.setIfInBounds_toArray, List.set_cons_zero, List.set_cons_succ])
    refine pl_fin ?_
    have x0 : w1.cell? ⟨w.heap.size, 0, none⟩ = some (.int .u8 0) := by rw [cell_of_row _ _ 0 _ _ _ KW.out.2]; rfl
    have x1 : w1.cell? ⟨w.heap.size, 1, none⟩ = some (.int .u64 0) := by rw [cell_of_row _ _ 1 _ _ _ KW.out.2]; rfl
    have y0 : w1.frozen? ⟨w.heap.size, 0, none⟩ = false := frozen_of_row w1 w.heap.size 0 _ _ KW.out.2
    have y1 : w1.frozen? ⟨w.heap.size, 1, none⟩ = false := frozen_of_row w1 w.heap.size 1 _ _ KW.out.2
    go_wp2
    refine bodyPost_ret (res_cell_tmp2g (by rfl) _ _ w.heap.size 0 (by rfl) [.int .u8 0, .int .u64 0] agg40g (cells2 (by rw [World.cell?_drew, World.cell?_setCell_other _ _ _ _ (by simp)]; exact World.cell?_setCell_same _ _ _ x0) (by rw [World.cell?_drew]; exact World.cell?_setCell_same _ _ _ (by rw [World.cell?_setCell_other _ _ _ _ (by simp)]; exact x1)))) rfl ?_
    have kr : Kept (fun k => k = w.heap.size) w1 (((w1.setCell ⟨w.heap.size, 0, none⟩ (.int .u8 0)).setCell ⟨w.heap.size, 1, none⟩ (.int .u64 0)).drew) := (((Kept.refl (fun k => k = w.heap.size) w1).setCell (p := ⟨w.heap.size, 0, none⟩) (fun _ => rfl) _).setCell (p := ⟨w.heap.size, 1, none⟩) (fun _ => rfl) _).drew
    exact ⟨rfl, (HPA.out.kept kr (fun k hk e => absurd (HO.out.2.2 k hk) (by have e : k = w.heap.size := e; omega))).mono (fun k hk => .inl hk), KW.out.1.trans2 kr (fun i hi e => absurd hi (by have e : i = w.heap.size := e; omega))⟩

set_option maxRecDepth 20000 in
set_option maxHeartbeats 8000000 in
theorem next_soon {w : World} {e : PE} {vh vs : Value} {b rb : Nat} {G F O : Nat → Prop} (x : PS) (hx : x.ok) (px : Nat) (hE : Env w e vh vs b rb G F) (ho : O px) (hO : ∀ k, O k → k ≠ b ∧ k ≠ rb ∧ ¬ G k ∧ ¬ F k) (hOl : ∀ k, O k → k < w.heap.size) (now T : Int) (hT : nowI now = T)
    (f : Nat) (s : Int) (a : Bool) (t : Int) (hw : x.want = some (f, s, a, t)) (wb : Nat) (hP : PxIs w px x (.pointer (some ⟨wb, 0, none⟩))) (hB : WbIs w wb f s a t) (hwb : O wb) (hne : wb ≠ px) (ha : a = true) (hlk : lacksI x e f s = true) (hsoon : T - t < x.again)
    : Calls Try.prog 39 #[.pointer (some ⟨px, 0, none⟩), .int .i64 now, vh, .pointer (some ⟨b, 0, none⟩), vs] w fun r w' => NextOut w w' px O r (x : PS) (0, 0) (-1) false := by
  have hOl' := hOl
  have hmm : max 0 (min now 1099511627776) = T := hT
  have hpl := hOl px ho
  have HT : Hid (∀ W, Kept O (w.alloc (.cells #[.int .u8 0, .int .u64 0] 40)) W → Kept O w W ∧ Rc w W) := by
    intro W hW
    have h := heap_alloc_new w (.cells #[.int .u8 0, .int .u64 0] 40)
    exact ⟨((Kept.refl _ w).alloc _).trans hW, (hW.block _ (lt_of_heap h) (fun e => absurd (hOl _ e) (Nat.lt_irrefl _))).trans h⟩
  have HE : Hid (∀ W, Kept O w W → Env W e vh vs b rb G F) := fun W hW => hE.kept hW (fun h => (hO _ h).1 rfl) (fun h => (hO _ h).2.1 rfl) (fun k hg ho => (hO _ ho).2.2.1 hg) (fun k hf ho => (hO _ ho).2.2.2 hf)
  have HD : Hid (px ≠ b ∧ px ≠ rb ∧ (∀ k, G k → k ≠ px) ∧ (∀ k, F k → k ≠ px)) := ⟨(hO _ ho).1, (hO _ ho).2.1, fun k hg e => (hO _ ho).2.2.1 (e ▸ hg), fun k hf e => (hO _ ho).2.2.2 (e ▸ hf)⟩
  have HO : Hid (O px ∧ x.ok ∧ (∀ k, O k → k < w.heap.size)) := ⟨ho, hx, hOl⟩
  clear hE hO hx
  have p3 := hP.cell.2.2.2.1
  have v0 := hB.cell.1
  have v1 := hB.cell.2.1
  have hwbl := hOl' _ hwb
  have hf255 : (f : Int) ≤ 255 := by have := (HO.out.2.1.w f s a t hw).1; omega
  have k0 : Kept No w (w.alloc (.cells #[.int .u8 0, .int .u64 0] 40)) := (Kept.refl _ _).alloc _
  have hL := lacks_any x px ((HE.out w (Kept.refl _ _)).new k0) (k0.cell hP.cell.1 id) (k0.cell hP.cell.2.1 id) f s hf255
  rw [hlk] at hL
  have HF' : Hid (PxIs w px x (.pointer (some ⟨wb, 0, none⟩)) ∧ WbIs w wb f s a t ∧ x.want = some (f, s, a, t) ∧ O wb ∧ wb ≠ px) := ⟨hP, hB, hw, hwb, hne⟩
  have hsoon' : T - t < x.again := hsoon
  have hnT := nowI_in now
  rw [hT] at hnT
  have hwt := HO.out.2.1.w f s a t hw
  have hwrap : IntKind.i64.wrap (T - t) = T - t := by rw [IntKind.wrap_i64]; omega
  subst ha
  clear hP hB hw hwb hT hlk hOl' hnT hwt hsoon k0
  go_enter Try.func39, Try.ntmps39
  go_wp2_with (go_at_call 56; go_must ((with_reducible refine hL.mono ?_); rintro r w1 ⟨rfl, hk1⟩; obtain ⟨k1, h3⟩ := HT.out w1 hk1.no; have h1 := (HF'.out.1.kept ((Kept.refl No w).alloc (.cells #[.int .u8 0, .int .u64 0] 40)) id).kept hk1 id; have h2 := (HF'.out.2.1.kept ((Kept.refl No w).alloc (.cells #[.int .u8 0, .int .u64 0] 40)) id).kept hk1 id; have KW : Hid (Kept O w w1 ∧ Rc w w1) := ⟨k1, h3⟩; have HPA : Hid (PullAt w1 px O x) := ⟨_, h1, HO.out.1, (by rw [HF'.out.2.2.1]; exact ⟨wb, rfl, HF'.out.2.2.2.2, HF'.out.2.2.2.1, h2⟩)⟩; have q2 := h1.cell.2.2.1; have q3 := h1.cell.2.2.2.1; have b2 := h2.cell.2.2.1; have b3 := h2.cell.2.2.2; clear hL hk1 k1 h3 h1 h2 p3 v0 v1))
  all_goals
    refine wp_region_plan No (.pur 0 (.pur 1 (.pur 2 (.pur 3 (.pur 4 (.pur 5 (.rd 6 (.pur 7 (.pur 8 (.pur 9 (.pur 10 (.pur 11 (.pur 14 (.pur 15 (.pur 16 (.rd 12 (.pur 13 (.rd 17 (.pur 18 (.pur 19 (.pur 20 .fin))))))))))))))))))))) [] mixed (by kernel_rfl) ?_
    repeat ((first | refine pl_pur (by simp only [List.getD_cons_succ, List.getD_cons_zero]; rfl) _ (by rfl) (fun W => by go_simp; with_reducible rfl) ?_ | refine pl_rd (by simp only [List.getD_cons_succ, List.getD_cons_zero]; rfl) _ (by rfl) (fun W hW => by have hc := hW.cell ((show w1.drew.cell? ⟨wb, 2, none⟩ = some (.bool true) from b2)) id; clear hW; go_simp; with_reducible rfl) ?_ | refine pl_rd (by simp only [List.getD_cons_succ, List.getD_cons_zero]; rfl) _ (by rfl) (fun W hW => by have hc := hW.cell ((show w1.drew.cell? ⟨wb, 3, none⟩ = some (.int .i64 t) from b3)) id; clear hW; go_simp; with_reducible rfl) ?_ | refine pl_rd (by simp only [List.getD_cons_succ, List.getD_cons_zero]; rfl) _ (by rfl) (fun W hW => by have hc := hW.cell ((show w1.drew.cell? ⟨px, 2, none⟩ = some (.int .i64 x.again) from q2)) id; clear hW; go_simp; with_reducible rfl) ?_); simp only [Act.put, List.setIfInBounds_toArray, List.set_cons_zero, List.set_cons_succ])
    refine pl_fin ?_
    have x0 : w1.cell? ⟨w.heap.size, 0, none⟩ = some (.int .u8 0) := by rw [cell_of_row _ _ 0 _ _ _ KW.out.2]; rfl
    have x1 : w1.cell? ⟨w.heap.size, 1, none⟩ = some (.int .u64 0) := by rw [cell_of_row _ _ 1 _ _ _ KW.out.2]; rfl
    have y0 : w1.frozen? ⟨w.heap.size, 0, none⟩ = false := frozen_of_row w1 w.heap.size 0 _ _ KW.out.2
    have y1 : w1.frozen? ⟨w.heap.size, 1, none⟩ = false := frozen_of_row w1 w.heap.size 1 _ _ KW.out.2
    go_wp2
    refine bodyPost_ret (res_cell_tmp2g (by rfl) _ _ w.heap.size 0 (by rfl) [.int .u8 0, .int .u64 0] agg40g (cells2 (by rw [World.cell?_drew, World.cell?_setCell_other _ _ _ _ (by simp)]; exact World.cell?_setCell_same _ _ _ x0) (by rw [World.cell?_drew]; exact World.cell?_setCell_same _ _ _ (by rw [World.cell?_setCell_other _ _ _ _ (by simp)]; exact x1)))) rfl ?_
    have kr : Kept (fun k => k = w.heap.size) w1 (((w1.setCell ⟨w.heap.size, 0, none⟩ (.int .u8 0)).setCell ⟨w.heap.size, 1, none⟩ (.int .u64 0)).drew) := (((Kept.refl (fun k => k = w.heap.size) w1).setCell (p := ⟨w.heap.size, 0, none⟩) (fun _ => rfl) _).setCell (p := ⟨w.heap.size, 1, none⟩) (fun _ => rfl) _).drew
    exact ⟨rfl, (HPA.out.kept kr (fun k hk e => absurd (HO.out.2.2 k hk) (by have e : k = w.heap.size := e; omega))).mono (fun k hk => .inl hk), KW.out.1.trans2 kr (fun i hi e => absurd hi (by have e : i = w.heap.size := e; omega))⟩
end Go.Proofs.Ytfnecdkfhackkaa
