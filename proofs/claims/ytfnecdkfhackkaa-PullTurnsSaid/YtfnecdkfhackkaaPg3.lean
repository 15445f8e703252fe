/- The package pull, general: lacks, choose. -/
import Derived.Test.YtfnecdkfhackkaaPg2
set_option linter.unusedVariables false
set_option linter.unusedSimpArgs false
namespace Go.Proofs.Ytfnecdkfhackkaa
open Go.RowKit

/-- What the puller's calls are handed. -/
structure Env (w : World) (e : PE) (vh vs : Value) (b rb : Nat) (G F : Nat → Prop) : Prop where
  m : MatAt w b rb e.N e.rows G
  hl : Sl (kI .u64) w F vh e.held
  sk : Sl (kI .i64) w F vs e.skip
  flt : ∀ k, F k → k < w.heap.size
theorem pl_loadw {P : Program} {F : Nat → Prop} {l : List Oper} {K : Act → World → Prop} {a : Act} {w : World} {i : Nat} {p : Plan} {o : Oper} (ho : l.getD i default = o) (hg : Region.wanted o (yielded l.toArray a.tmps) = true) (x : Operand) (ty : TypeId) (hop : o.op = .load ty x)
    (b off : Nat) (hx : a.eval x = .pointer (some ⟨b, off, none⟩)) (cs : List Value) (hA : Agg P ty cs.length) (hc : ∀ i u, cs[i]? = some u → w.cell? ⟨b, off + i, none⟩ = some u) (hF : ¬ F b)
    (h : wpPl P F l K p (a.put o.dst (.agg cs.toArray)) w) : wpPl P F l K (.rd i p) a w := by
  refine pl_rd ho _ hg (fun W hW => ?_) h
  simp only [execOp, hop, Instr.loadAt, hx]
  simp [Instr.sureAddr, run_load_whole hA (fun i u hu => hW.cell (hc i u hu) hF)]
section
variable {w w1 : World} {e : PE} {vh vs : Value} {b rb : Nat} {G F : Nat → Prop}
theorem Env.new (h : Env w e vh vs b rb G F) (hk : Kept No w w1) : Env w1 e vh vs b rb G F := ⟨h.m.new hk, h.hl.new hk, h.sk.new hk, fun k hf => Nat.lt_of_lt_of_le (h.flt k hf) hk.size⟩
theorem Env.kept {O : Nat → Prop} (h : Env w e vh vs b rb G F) (hk : Kept O w w1) (hb : ¬ O b) (hr : ¬ O rb) (hg : ∀ k, G k → ¬ O k) (hf : ∀ k, F k → ¬ O k) : Env w1 e vh vs b rb G F :=
  ⟨h.m.kept hk hb hr hg, h.hl.kept hk fun k h _ => hf k h, h.sk.kept hk fun k h _ => hf k h, fun k hh => Nat.lt_of_lt_of_le (h.flt k hh) hk.size⟩
theorem agg40g {a b : Value} : Agg Try.prog 40 [a, b].length := Agg.mk' Try.underlying40 rfl (by kernel_rfl)
theorem cells2 {w : World} {b : Nat} {x y : Value} (h0 : w.cell? ⟨b, 0, none⟩ = some x) (h1 : w.cell? ⟨b, 1, none⟩ = some y) : ∀ i u, [x, y][i]? = some u → w.cell? ⟨b, 0 + i, none⟩ = some u := by
  intro i u hu
  match i with
  | 0 => have e : x = u := by simpa using hu
         subst e; exact h0
  | 1 => have e : y = u := by simpa using hu
         subst e; exact h1
  | i + 2 => simp at hu

set_option maxRecDepth 20000 in
set_option maxHeartbeats 1000000 in
theorem lacks_any (x : PS) (px : Nat) (hE : Env w e vh vs b rb G F) (h0 : w.cell? ⟨px, 0, none⟩ = some (.int .i64 x.n)) (h1 : w.cell? ⟨px, 1, none⟩ = some (.int .i64 x.me)) (f : Nat) (s : Int) (hf : (f : Int) ≤ 255) :
    Calls Try.prog 56 #[.pointer (some ⟨px, 0, none⟩), .agg #[.int .u8 f, .int .u64 s], vh, .pointer (some ⟨b, 0, none⟩), vs] w fun r w' => r = .returned (.bool (lacksI x e f s)) ∧ Kept No w w' := by
  obtain ⟨R, hR⟩ : ∃ R, R = lacksI x e f s := ⟨_, rfl⟩
  rw [← hR]
  have hwf : IntKind.i64.wrap (f : Int) = (f : Int) := by rw [IntKind.wrap_i64]; omega
  obtain ⟨W, hW⟩ : ∃ W, W = (w.alloc (.cells #[.int .u8 f, .int .u64 s] 40)).drew := ⟨_, rfl⟩
  have k0 : Kept No w W := by rw [hW]; exact ((Kept.refl _ _).alloc _).drew
  have c0 : W.cell? ⟨w.heap.size, 0, none⟩ = some (.int .u8 f) := by rw [hW, World.cell?_drew]; simp
  have c1 : W.cell? ⟨w.heap.size, 1, none⟩ = some (.int .u64 s) := by rw [hW, World.cell?_drew]; simp
  have n0 := k0.cell h0 id
  have hAt := at_any vh e.held f W F ((hE.new k0).hl)
  have hHelp := helpers_any x e vs px W ((hE.new k0).m) ((hE.new k0).sk) ((hE.new k0).flt) n0 (k0.cell h1 id) f s hf
  obtain ⟨a, ha⟩ : ∃ a, a = vat e.held f := ⟨_, rfl⟩
  rw [← ha] at hAt
  have HR : Hid (R = (decide (f < x.n) && (decide (IntKind.u64.wrap (a + 1) = s) && decide (0 < (helpersI x e f s).length)))) := by rw [hR, lacksI, nextS, ha]; exact rfl
  have HW : Hid (W = (w.alloc (.cells #[.int .u8 f, .int .u64 s] 40)).drew) := hW
  have HK : Hid (Kept No w W ∧ W.cell? ⟨w.heap.size, 0, none⟩ = some (.int .u8 f) ∧ W.cell? ⟨w.heap.size, 1, none⟩ = some (.int .u64 s)) := ⟨k0, c0, c1⟩
  clear hR hW k0 ha hE h0 h1
  by_cases hfn : f < x.n
  · have hff : (f : Int) < x.n := by omega
    by_cases hs : IntKind.u64.wrap (a + 1) = s
    · have HS : Hid (IntKind.u64.wrap (a + 1) = s ∧ f < x.n) := ⟨hs, hfn⟩
      obtain ⟨H, hH⟩ : ∃ H, H = helpersI x e f s := ⟨_, rfl⟩
      rw [← hH] at hHelp HR
      clear hH
      go_enter Try.func56, Try.ntmps56
      go_wp2
      refine wp_region_plan No (.pur 0 (.pur 3 (.pur 4 (.pur 5 (.rd 1 (.pur 2 (.rd 6 (.pur 7 (.pur 8 (.pur 9 (.pur 10 (.pur 15 (.rd 11 (.pur 12 (.rd 16 (.grow 13 (.pur 14 (.pur 17 (.pur 18 (.pur 19 (.pur 20 (.pur 22 (.pur 23 (.rd 21 (.grow 24 (.pur 25 (.pur 26 (.pur 27 (.pur 28 .fin))))))))))))))))))))))))))))) [] mixed (by kernel_rfl) ?_
      rw [← HW.out]
      repeat ((first | refine pl_pur (by simp only [List.getD_cons_succ, List.getD_cons_zero]; rfl) _ (by rfl) (fun W => by go_simp; with_reducible rfl) ?_ | refine pl_rd (by simp only [List.getD_cons_succ, List.getD_cons_zero]; rfl) _ (by rfl) (fun W hW => by have hc := hW.cell (c0) id; clear hW; go_simp; with_reducible rfl) ?_ | refine pl_rd (by simp only [List.getD_cons_succ, List.getD_cons_zero]; rfl) _ (by rfl) (fun W hW => by have hc := hW.cell (c1) id; clear hW; go_simp; with_reducible rfl) ?_ | refine pl_rd (by simp only [List.getD_cons_succ, List.getD_cons_zero]; rfl) _ (by rfl) (fun W hW => by have hc := hW.cell (n0) id; clear hW; go_simp; with_reducible rfl) ?_); simp only [Act.put, List.setIfInBounds_toArray, List.set_cons_zero, List.set_cons_succ])
      refine pl_grow (by simp only [List.getD_cons_succ, List.getD_cons_zero]; rfl) ?_
      go_wp2_with (go_at_call 71; ((with_reducible refine hAt.mono ?_); rintro r w1 ⟨rfl, rfl⟩))
      refine GPost.mk (Kept.refl _ _) ?_
      repeat ((first | refine pl_pur (by simp only [List.getD_cons_succ, List.getD_cons_zero]; rfl) _ (by rfl) (fun W => by go_simp; with_reducible rfl) ?_ | refine pl_rd (by simp only [List.getD_cons_succ, List.getD_cons_zero]; rfl) _ (by rfl) (fun W hW => by have hc := kcell hW; clear hW; go_simp; with_reducible rfl) ?_); simp only [Act.put, List.setIfInBounds_toArray, List.set_cons_zero, List.set_cons_succ])
      refine pl_loadw (by simp only [List.getD_cons_succ, List.getD_cons_zero]; rfl) (by rfl) (.tmp 6) 40 (by rfl) w.heap.size 0 (by rfl) _ agg40g (cells2 HK.out.2.1 HK.out.2.2) (fun h => h) ?_
      simp only [Act.put, List.setIfInBounds_toArray, List.set_cons_zero, List.set_cons_succ]
      refine pl_grow (by simp only [List.getD_cons_succ, List.getD_cons_zero]; rfl) ?_
      go_wp2_with (go_at_call 58; ((with_reducible refine hHelp.mono ?_); rintro r w2 ⟨v2, rfl, ht2, hf2, hk2⟩; obtain ⟨A, c, rfl, _⟩ := ht2.slice; clear ht2 hf2))
      refine GPost.mk hk2 ?_
      repeat ((first | refine pl_pur (by simp only [List.getD_cons_succ, List.getD_cons_zero]; rfl) _ (by rfl) (fun W => by go_simp; with_reducible rfl) ?_ | refine pl_rd (by simp only [List.getD_cons_succ, List.getD_cons_zero]; rfl) _ (by rfl) (fun W hW => by have hc := kcell hW; clear hW; go_simp; with_reducible rfl) ?_); simp only [Act.put, List.setIfInBounds_toArray, List.set_cons_zero, List.set_cons_succ])
      refine pl_fin ?_
      go_wp2
      go_ret
      exact ⟨ret_bool (by rw [HR.out, decide_eq_true HS.out.1, decide_eq_true HS.out.2]; simp), HK.out.1.trans hk2⟩
    · have hne : (IntKind.u64.wrap (a + 1) == s) = false := by rw [beq_eq_false_iff_ne]; exact hs
      have HS : Hid (¬ IntKind.u64.wrap (a + 1) = s) := hs
      clear hs hHelp
      go_enter Try.func56, Try.ntmps56
      go_wp2
      refine wp_region_plan No (.pur 0 (.pur 3 (.pur 4 (.pur 5 (.rd 1 (.pur 2 (.rd 6 (.pur 7 (.pur 8 (.pur 9 (.pur 10 (.pur 15 (.rd 11 (.pur 12 (.rd 16 (.grow 13 (.pur 14 (.pur 17 (.pur 18 (.pur 19 (.pur 20 (.pur 22 (.pur 23 (.rd 21 (.grow 24 (.pur 25 (.pur 26 (.pur 27 (.pur 28 .fin))))))))))))))))))))))))))))) [] mixed (by kernel_rfl) ?_
      rw [← HW.out]
      repeat ((first | refine pl_pur (by simp only [List.getD_cons_succ, List.getD_cons_zero]; rfl) _ (by rfl) (fun W => by go_simp; with_reducible rfl) ?_ | refine pl_rd (by simp only [List.getD_cons_succ, List.getD_cons_zero]; rfl) _ (by rfl) (fun W hW => by have hc := hW.cell (c0) id; clear hW; go_simp; with_reducible rfl) ?_ | refine pl_rd (by simp only [List.getD_cons_succ, List.getD_cons_zero]; rfl) _ (by rfl) (fun W hW => by have hc := hW.cell (c1) id; clear hW; go_simp; with_reducible rfl) ?_ | refine pl_rd (by simp only [List.getD_cons_succ, List.getD_cons_zero]; rfl) _ (by rfl) (fun W hW => by have hc := hW.cell (n0) id; clear hW; go_simp; with_reducible rfl) ?_); simp only [Act.put, List.setIfInBounds_toArray, List.set_cons_zero, List.set_cons_succ])
      refine pl_grow (by simp only [List.getD_cons_succ, List.getD_cons_zero]; rfl) ?_
      go_wp2_with (go_at_call 71; ((with_reducible refine hAt.mono ?_); rintro r w1 ⟨rfl, rfl⟩))
      refine GPost.mk (Kept.refl _ _) ?_
      repeat ((first | refine pl_pur (by simp only [List.getD_cons_succ, List.getD_cons_zero]; rfl) _ (by rfl) (fun W => by go_simp; with_reducible rfl) ?_ | refine pl_rd (by simp only [List.getD_cons_succ, List.getD_cons_zero]; rfl) _ (by rfl) (fun W hW => by have hc := kcell hW; clear hW; go_simp; with_reducible rfl) ?_ | refine pl_skip (by simp only [List.getD_cons_succ, List.getD_cons_zero]; rfl) (by rfl) ?_ | refine pl_skip_rd (by simp only [List.getD_cons_succ, List.getD_cons_zero]; rfl) (by rfl) ?_ | refine pl_skip_grow (by simp only [List.getD_cons_succ, List.getD_cons_zero]; rfl) (by rfl) ?_ | refine pl_skip_act (by simp only [List.getD_cons_succ, List.getD_cons_zero]; rfl) (by rfl) ?_); simp only [Act.put, List.setIfInBounds_toArray, List.set_cons_zero, List.set_cons_succ])
      refine pl_fin ?_
      go_wp2
      go_ret
      exact ⟨ret_bool (by rw [HR.out, decide_eq_false HS.out]; simp), HK.out.1⟩
  · have hff : ¬ (f : Int) < x.n := by omega
    have hfd : decide ((f : Int) < x.n) = false := decide_eq_false hff
    have hfe : ((f : Int) < x.n) = False := eq_false hff
    have HS : Hid (¬ f < x.n) := hfn
    clear hfn hHelp
    go_enter Try.func56, Try.ntmps56
    go_wp2
    refine wp_region_plan No (.pur 0 (.pur 3 (.pur 4 (.pur 5 (.rd 1 (.pur 2 (.rd 6 (.pur 7 (.pur 8 (.pur 9 (.pur 10 (.pur 15 (.rd 11 (.pur 12 (.rd 16 (.grow 13 (.pur 14 (.pur 17 (.pur 18 (.pur 19 (.pur 20 (.pur 22 (.pur 23 (.rd 21 (.grow 24 (.pur 25 (.pur 26 (.pur 27 (.pur 28 .fin))))))))))))))))))))))))))))) [] mixed (by kernel_rfl) ?_
    rw [← HW.out]
    repeat ((first | refine pl_pur (by simp only [List.getD_cons_succ, List.getD_cons_zero]; rfl) _ (by rfl) (fun W => by go_simp; with_reducible rfl) ?_ | refine pl_rd (by simp only [List.getD_cons_succ, List.getD_cons_zero]; rfl) _ (by rfl) (fun W hW => by have hc := hW.cell (c0) id; clear hW; go_simp; with_reducible rfl) ?_ | refine pl_rd (by simp only [List.getD_cons_succ, List.getD_cons_zero]; rfl) _ (by rfl) (fun W hW => by have hc := hW.cell (c1) id; clear hW; go_simp; with_reducible rfl) ?_ | refine pl_rd (by simp only [List.getD_cons_succ, List.getD_cons_zero]; rfl) _ (by rfl) (fun W hW => by have hc := hW.cell (n0) id; clear hW; go_simp; with_reducible rfl) ?_ | refine pl_skip (by simp only [List.getD_cons_succ, List.getD_cons_zero]; rfl) (by rfl) ?_ | refine pl_skip_rd (by simp only [List.getD_cons_succ, List.getD_cons_zero]; rfl) (by rfl) ?_ | refine pl_skip_grow (by simp only [List.getD_cons_succ, List.getD_cons_zero]; rfl) (by rfl) ?_ | refine pl_skip_act (by simp only [List.getD_cons_succ, List.getD_cons_zero]; rfl) (by rfl) ?_); simp only [Act.put, List.setIfInBounds_toArray, List.set_cons_zero, List.set_cons_succ])
    refine pl_fin ?_
    go_wp2
    go_ret
    exact ⟨ret_bool (by rw [HR.out, decide_eq_false HS.out]; simp), HK.out.1⟩

def PxIs (w : World) (px : Nat) (x : PS) (pv : Value) : Prop := w.heap[px]? = some (.cells #[.int .i64 x.n, .int .i64 x.me, .int .i64 x.again, pv, .int .i64 x.sender, .int .i64 x.last, .int .u64 x.count] 92 (0, 0))
def WbIs (w : World) (wb : Nat) (f : Nat) (s : Int) (a : Bool) (t : Int) : Prop := w.heap[wb]? = some (.cells #[.int .u8 f, .int .u64 s, .bool a, .int .i64 t] 95 (0, 0))
theorem PxIs.cell {px : Nat} {x : PS} {pv : Value} (h : PxIs w px x pv) : w.cell? ⟨px, 0, none⟩ = some (.int .i64 x.n) ∧ w.cell? ⟨px, 1, none⟩ = some (.int .i64 x.me) ∧ w.cell? ⟨px, 2, none⟩ = some (.int .i64 x.again) ∧ w.cell? ⟨px, 3, none⟩ = some pv ∧ w.cell? ⟨px, 4, none⟩ = some (.int .i64 x.sender) ∧ w.cell? ⟨px, 5, none⟩ = some (.int .i64 x.last) ∧ w.cell? ⟨px, 6, none⟩ = some (.int .u64 x.count) := by
  refine ⟨?_, ?_, ?_, ?_, ?_, ?_, ?_⟩ <;> (rw [cell_of_row _ _ _ _ _ _ h]; rfl)
theorem PxIs.fro {px : Nat} {x : PS} {pv : Value} (h : PxIs w px x pv) (j : Nat) : w.frozen? ⟨px, j, none⟩ = false := frozen_of_row w px j _ _ h
theorem PxIs.kept {O : Nat → Prop} {px : Nat} {x : PS} {pv : Value} (h : PxIs w px x pv) (hk : Kept O w w1) (ho : ¬ O px) : PxIs w1 px x pv := (hk.block _ (lt_of_heap h) ho).trans h
theorem WbIs.kept {O : Nat → Prop} {wb f : Nat} {s t : Int} {a : Bool} (h : WbIs w wb f s a t) (hk : Kept O w w1) (ho : ¬ O wb) : WbIs w1 wb f s a t := (hk.block _ (lt_of_heap h) ho).trans h
theorem WbIs.cell {wb f : Nat} {s t : Int} {a : Bool} (h : WbIs w wb f s a t) : w.cell? ⟨wb, 0, none⟩ = some (.int .u8 f) ∧ w.cell? ⟨wb, 1, none⟩ = some (.int .u64 s) ∧ w.cell? ⟨wb, 2, none⟩ = some (.bool a) ∧ w.cell? ⟨wb, 3, none⟩ = some (.int .i64 t) := by
  refine ⟨?_, ?_, ?_, ?_⟩ <;> (rw [cell_of_row _ _ _ _ _ _ h]; rfl)
theorem WbIs.fro {wb f : Nat} {s t : Int} {a : Bool} (h : WbIs w wb f s a t) (j : Nat) : w.frozen? ⟨wb, j, none⟩ = false := frozen_of_row w wb j _ _ h

theorem find_hit {l : List Nat} {p : Nat → Bool} {k s : Nat} (hk : l[k]? = some s) (hs : p s = true) (hn : ∀ (j : Nat) t, j < k → l[j]? = some t → p t = false) : l.find? p = some s := by
  rw [List.find?_eq_some_iff_getElem]
  obtain ⟨hlt, he⟩ := List.getElem?_eq_some_iff.1 hk
  exact ⟨hs, k, hlt, he, fun j hj => by simp [hn j _ hj (List.getElem?_eq_getElem (by omega))]⟩
theorem find_miss {l : List Nat} {p : Nat → Bool} (hn : ∀ (j : Nat) t, l[j]? = some t → p t = false) : l.find? p = none := by
  rw [List.find?_eq_none]
  intro t ht
  obtain ⟨j, hj⟩ := List.mem_iff_getElem?.1 ht
  simp [hn j t hj]

set_option maxRecDepth 20000 in
set_option maxHeartbeats 2000000 in
theorem choose_any (x : PS) (hx : x.ok) (px : Nat) (hP : PxIs w px x (.pointer none)) (hE : Env w e vh vs b rb G F) (hO : px ≠ b ∧ px ≠ rb ∧ (∀ k, G k → k ≠ px) ∧ (∀ k, F k → k ≠ px)) :
    Calls Try.prog 57 #[.pointer (some ⟨px, 0, none⟩), vh, .pointer (some ⟨b, 0, none⟩), vs] w fun r w' => r = .returned (.tuple #[]) ∧ Kept (fun k => k = px) w w' ∧
      (∀ s, (ringN x.n x.sender).find? (fun s => lacksI x e s (nextS e s)) = some s → ∃ wb, w.heap.size ≤ wb ∧ PxIs w' px { x with sender := s } (.pointer (some ⟨wb, 0, none⟩)) ∧ WbIs w' wb s (nextS e s) false 0) ∧
      ((ringN x.n x.sender).find? (fun s => lacksI x e s (nextS e s)) = none → Kept No w w') := by
  obtain ⟨h0, h1, _, _, h4, _, _⟩ := hP.cell
  have n0 : w.drew.cell? ⟨px, 0, none⟩ = some (.int .i64 x.n) := h0
  have n4 : w.drew.cell? ⟨px, 4, none⟩ = some (.int .i64 x.sender) := h4
  have hWay := fun W => way_any x.n x.sender hx.n2 hx.sender W
  have HX : Hid (x.ok ∧ PxIs w px x (.pointer none) ∧ Env w e vh vs b rb G F ∧ w.cell? ⟨px, 0, none⟩ = some (.int .i64 x.n) ∧ w.cell? ⟨px, 1, none⟩ = some (.int .i64 x.me)) := ⟨hx, hP, hE, h0, h1⟩
  have hn64 := hx.n2
  have hwl : (natI (wayN x.n x.sender)).length ≤ 64 := by simp [natI, wayN]; omega
  have hsi : ∀ y ∈ [(x.sender : Int)], InR .i64 y := fun y hy => by rw [List.mem_singleton.1 hy, inr_i64]; have := hx.sender; omega
  have hring : natI (ringN x.n x.sender) = natI (wayN x.n x.sender) ++ [(x.sender : Int)] := by rw [ringN, natI_snoc]
  have HL : Hid ((natI (wayN x.n x.sender)).length ≤ 64 ∧ (∀ y ∈ [(x.sender : Int)], InR .i64 y) ∧ natI (ringN x.n x.sender) = natI (wayN x.n x.sender) ++ [(x.sender : Int)]) := ⟨hwl, hsi, hring⟩
  clear hP hE h0 h1 h4 hx hwl hsi hring
  go_enter Try.func57, Try.ntmps57
  go_wp2
  refine wp_region_plan No (.pur 0 (.pur 1 (.pur 2 (.pur 4 (.pur 5 (.pur 6 (.pur 9 (.pur 10 (.pur 11 (.pur 16 (.rd 3 (.rd 7 (.rd 12 (.fork 8 13 (.grow 13 (.act 14 (.rd 15 .fin))) (.grow 8 (.act 14 (.rd 15 .fin))))))))))))))))) [14] mixed (by kernel_rfl) ?_
  repeat ((first | refine pl_pur (by simp only [List.getD_cons_succ, List.getD_cons_zero]; rfl) _ (by rfl) (fun W => by go_simp; with_reducible rfl) ?_ | refine pl_rd (by simp only [List.getD_cons_succ, List.getD_cons_zero]; rfl) _ (by rfl) (fun W hW => by have hc := hW.cell (n0) id; clear hW; go_simp; with_reducible rfl) ?_ | refine pl_rd (by simp only [List.getD_cons_succ, List.getD_cons_zero]; rfl) _ (by rfl) (fun W hW => by have hc := hW.cell (n4) id; clear hW; go_simp; with_reducible rfl) ?_); simp only [Act.put, List.setIfInBounds_toArray, List.set_cons_zero, List.set_cons_succ])
  clear n0 n4
  refine pl_fork (by simp only [List.getD_cons_succ, List.getD_cons_zero]; rfl) (by simp only [List.getD_cons_succ, List.getD_cons_zero]; rfl) ?_ ?_
  · go_wp2_with (go_at_call 59; ((with_reducible refine (hWay _).mono ?_); rintro r w1 ⟨v1, rfl, ht1, hf1, hk1⟩))
    refine GPost.mk hk1 ?_
    have H1 : Hid (TW (kI .i64) 3 (w1.alloc (.cells #[.int .i64 x.sender] 3)) No v1 (natI (wayN x.n x.sender)) ∧ Fresh w v1 ∧ Kept No w (w1.alloc (.cells #[.int .i64 x.sender] 3))) := ⟨ht1.new ((Kept.refl _ _).alloc _), hf1, ((Kept.refl No w).drew.trans hk1).alloc _⟩
    clear ht1 hf1 hk1
    obtain ⟨A1, m1, c1, e1⟩ : ∃ A n c, v1 = .slice A n c := by obtain ⟨A, c, h, _⟩ := H1.out.1.slice; exact ⟨A, _, c, h⟩
    subst e1
    refine pl_grow (by simp only [List.getD_cons_succ, List.getD_cons_zero]; rfl) ?_
    go_wp2
    refine GPost.mk ((Kept.refl _ _).alloc _) ?_
    refine pl_act (by simp only [List.getD_cons_succ, List.getD_cons_zero]; rfl) ?_
    refine wpList_append_tw (d := kI .i64) (G := No) (F := fun k' => k' = w1.heap.size) rfl (.tmp 19) (.tmp 24) 42 rfl 3 (.int .i64 0) 8 Try.underlying42 info_i64 rfl _ _ 1 _ [(x.sender : Int)] [.int .i64 x.sender] rfl H1.out.1 rfl (src_new rfl) (reps_ints HL.out.2.1) rfl (fun _ h => h.elim) (by have := HL.out.1; simp only [maxLen]; omega) (by have := HL.out.1; omega) ?_
    intro v2 w2 ht2 hk2 hb2
    have HF : Hid (Kept No w w2 ∧ TW (kI .i64) 3 w2 No v2 (natI (ringN x.n x.sender))) := ⟨H1.out.2.2.fresh hk2 H1.out.2.1, by rw [HL.out.2.2]; exact ht2⟩
    have hl2 : (natI (ringN x.n x.sender)).length = x.n := by rw [natI, List.length_map]; exact ringN_len HX.out.1.n1
    obtain ⟨A2, c2, rfl, hc21, hc22⟩ := HF.out.2.slice
    rw [hl2] at hc21 HF ⊢
    simp only [maxLen] at hc22
    clear ht2 hk2 hb2 H1 hl2
    refine APost.mk ?_
    repeat ((first | refine pl_pur (by simp only [List.getD_cons_succ, List.getD_cons_zero]; rfl) _ (by rfl) (fun W => by go_simp; with_reducible rfl) ?_ | refine pl_rd (by simp only [List.getD_cons_succ, List.getD_cons_zero]; rfl) _ (by rfl) (fun W hW => by have hc := kcell hW; clear hW; go_simp; with_reducible rfl) ?_); simp only [Act.put, List.setIfInBounds_toArray, List.set_cons_zero, List.set_cons_succ])
    refine pl_fin ?_
    go_wp2
    go_loopw [27] (fun i wr => ∃ k : Nat, k ≤ x.n ∧ i = .int .i64 k ∧ Kept No w2 wr ∧ (∀ (j : Nat) t, j < k → (ringN x.n x.sender)[j]? = some t → lacksI x e t (nextS e t) = false)) (fun i _ => x.n - (intOf i).toNat)
    case atStart => exact ⟨0, Nat.zero_le _, by first | rfl | trivial, Kept.refl _ _, fun _ _ h => absurd h (Nat.not_lt_zero _)⟩
    case round =>
      obtain ⟨k, hk, rfl, hke, hno⟩ := hrel
      have HN : Hid (Kept No w wr ∧ (∀ (j : Nat) t, j < k → (ringN x.n x.sender)[j]? = some t → lacksI x e t (nextS e t) = false) ∧ Kept No w2 wr) := ⟨HF.out.1.trans hke, hno, hke⟩
      by_cases hlt : k < x.n
      · obtain ⟨s, hs⟩ : ∃ s, (ringN x.n x.sender)[k]? = some s := ⟨_, List.getElem?_eq_getElem (by rw [ringN_len HX.out.1.n1]; exact hlt)⟩
        have hsn := ringN_lt HX.out.1.sender s (List.mem_of_getElem? hs)
        have hns : (natI (ringN x.n x.sender))[k]? = some (s : Int) := by rw [natI, List.getElem?_map, hs]; rfl
        obtain ⟨g, o, _, ea, _, _⟩ := HF.out.2.get hns
        subst ea
        have z0 := (tw_int (HF.out.2.new hke) hns).2
        have hw8 : IntKind.u8.wrap (s : Int) = s := by simp [IntKind.wrap, IntKind.bits, IntKind.signed]; omega
        have hAt := at_any vh e.held s wr F (HX.out.2.2.1.new HN.out.1).hl
        obtain ⟨nx, hnx⟩ : ∃ nx, nx = nextS e s := ⟨_, rfl⟩
        have hw64 : IntKind.u64.wrap (vat e.held s + 1) = nx := hnx.symm
        have ka : Kept No wr (wr.alloc (.cells #[.int .u8 s, .int .u64 nx] 40)) := (Kept.refl _ _).alloc _
        have kwa : Kept No w (wr.alloc (.cells #[.int .u8 s, .int .u64 nx] 40)) := HN.out.1.trans ka
        have hL := lacks_any x px (HX.out.2.2.1.new kwa) (kwa.cell HX.out.2.2.2.1 id) (kwa.cell HX.out.2.2.2.2 id) s nx (by omega)
        obtain ⟨bv, hbv⟩ : ∃ bv, bv = lacksI x e s nx := ⟨_, rfl⟩
        rw [← hbv] at hL
        have HB : Hid (bv = lacksI x e s (nextS e s) ∧ (ringN x.n x.sender)[k]? = some s ∧ nx = nextS e s ∧ Kept No w (wr.alloc (.cells #[.int .u8 s, .int .u64 nx] 40))) := ⟨by rw [hbv, hnx], hs, hnx, kwa⟩
        clear hbv hs hns hnx hke hno ka kwa
        cases bv
        · go_wp2_with (first
            | (go_at_call 71; ((with_reducible refine hAt.mono ?_); rintro r w3 ⟨rfl, rfl⟩))
            | (go_at_call 56; go_must ((with_reducible refine hL.mono ?_); rintro r w4 ⟨rfl, hk4⟩; have HK4 : Hid (Kept No wr w4) := ((Kept.refl _ _).alloc _).trans hk4; clear hk4)))
          go_roundw
          case rel =>
            refine ⟨k + 1, by omega, by go_num, HN.out.2.2.trans HK4.out, fun j t hj ht => ?_⟩
            rcases Nat.lt_or_ge j k with h | h
            · exact HN.out.2.1 j t h ht
            · have : j = k := by omega
              subst this
              rw [HB.out.2.1] at ht
              injection ht with ht
              rw [← ht]
              exact HB.out.1.symm
          case measure => simp [intOf]; omega
        · go_wp2_with (first
            | (go_at_call 71; ((with_reducible refine hAt.mono ?_); rintro r w3 ⟨rfl, rfl⟩))
            | (go_at_call 56; go_must ((with_reducible refine hL.mono ?_); rintro r w4 ⟨rfl, hk4⟩; have HK4 : Hid (Kept No wr w4 ∧ Kept No w w4) := ⟨((Kept.refl _ _).alloc _).trans hk4, HB.out.2.2.2.trans hk4⟩; have hP4 := HX.out.2.1.kept HK4.out.2 id; have p3 := hP4.cell.2.2.2.1; have p4 := hP4.cell.2.2.2.2.1; have pf3 := hP4.fro 3; have pf4 := hP4.fro 4; have j0 : w4.cell? ⟨wr.heap.size, 0, none⟩ = some (.int .u8 s) := hk4.cell (by simp) id; have j1 : w4.cell? ⟨wr.heap.size, 1, none⟩ = some (.int .u64 nx) := hk4.cell (by simp) id; have hpl := lt_of_heap hP4; have HP4 : Hid (PxIs w4 px x (.pointer none)) := hP4; clear hk4 hP4)))
          refine bodyPost_ret (results_none (by rfl) _ _ _) rfl ?_
          have hP4 : w4.heap[px]? = some (.cells #[.int .i64 x.n, .int .i64 x.me, .int .i64 x.again, .pointer none, .int .i64 x.sender, .int .i64 x.last, .int .u64 x.count] 92 (0, 0)) := HP4.out
          have hfind := find_hit (p := fun s => lacksI x e s (nextS e s)) HB.out.2.1 HB.out.1.symm HN.out.2.1
          refine ⟨rfl, ?_, fun s' hs' => ?_, fun hs' => ?_⟩
          · exact (((Kept.no (F := fun k => k = px) HK4.out.2).setCell (p := ⟨px, 3, none⟩) (fun _ => rfl) _).setCell (p := ⟨px, 4, none⟩) (fun _ => rfl) _).alloc _
          · rw [hfind] at hs'
            injection hs' with hs'
            subst hs'
            refine ⟨w4.heap.size, HK4.out.2.size, ?_, ?_⟩
            · exact (Below.heap_alloc _ _ _ (by simpa using hpl)).trans (heap_setCell_same _ px 4 _ 92 _ (heap_setCell_same w4 px 3 _ 92 _ hP4))
            · have := heap_alloc_new ((w4.setCell ⟨px, 3, none⟩ (.pointer (some ⟨w4.heap.size, 0, none⟩))).setCell ⟨px, 4, none⟩ (.int .i64 s)) (.cells #[.int .u8 s, .int .u64 nx, .bool false, .int .i64 0] 95)
              simp only [World.size_setCell] at this
              rw [← HB.out.2.2.1]
              exact this
          · rw [hfind] at hs'; cases hs'
      · go_wp2
        go_end0
        have hkn : k = x.n := by omega
        have hm := find_miss (l := ringN x.n x.sender) (p := fun s => lacksI x e s (nextS e s)) (fun j t ht => HN.out.2.1 j t (by have := (List.getElem?_eq_some_iff.1 ht).1; rw [ringN_len HX.out.1.n1] at this; omega) ht)
        exact ⟨rfl, HN.out.1.no, fun s hs => (by rw [hm] at hs; cases hs), fun _ => HN.out.1⟩
  · go_wp2
    refine GPost.mk ((Kept.refl _ _).alloc _) ?_
    refine pl_grow (by simp only [List.getD_cons_succ, List.getD_cons_zero]; rfl) ?_
    go_wp2_with (go_at_call 59; ((with_reducible refine (hWay _).mono ?_); rintro r w1 ⟨v1, rfl, ht1, hf1, hk1⟩))
    refine GPost.mk hk1 ?_
    have hwa : Kept No w (w.alloc (.cells #[.int .i64 x.sender] 3)) := (Kept.refl _ _).alloc _
    have HS2 : Hid (Src w1 (fun k' => k' = w.heap.size) 1 (.slice (some ⟨w.heap.size, 0, none⟩) 1 1) 1 [.int .i64 x.sender]) := (src_new (w := w) (e := 3) (c := .int .i64 x.sender) rfl).move fun k hk hlt => hk1.block k hlt id
    have H1 : Hid (TW (kI .i64) 3 w1 No v1 (natI (wayN x.n x.sender)) ∧ Fresh w v1 ∧ Kept No w w1) := ⟨ht1, fun k hk => Nat.le_trans hwa.size (by simpa using hf1 k hk), (hwa.drew).trans hk1⟩
    clear ht1 hf1 hk1 hwa
    obtain ⟨A1, m1, c1, e1⟩ : ∃ A n c, v1 = .slice A n c := by obtain ⟨A, c, h, _⟩ := H1.out.1.slice; exact ⟨A, _, c, h⟩
    subst e1
    refine pl_act (by simp only [List.getD_cons_succ, List.getD_cons_zero]; rfl) ?_
    refine wpList_append_tw (d := kI .i64) (G := No) (F := fun k' => k' = w.heap.size) rfl (.tmp 19) (.tmp 24) 42 rfl 3 (.int .i64 0) 8 Try.underlying42 info_i64 rfl _ _ 1 _ [(x.sender : Int)] [.int .i64 x.sender] rfl H1.out.1 rfl HS2.out (reps_ints HL.out.2.1) rfl (fun _ h => h.elim) (by have := HL.out.1; simp only [maxLen]; omega) (by have := HL.out.1; omega) ?_
    intro v2 w2 ht2 hk2 hb2
    have HF : Hid (Kept No w w2 ∧ TW (kI .i64) 3 w2 No v2 (natI (ringN x.n x.sender))) := ⟨H1.out.2.2.fresh hk2 H1.out.2.1, by rw [HL.out.2.2]; exact ht2⟩
    have hl2 : (natI (ringN x.n x.sender)).length = x.n := by rw [natI, List.length_map]; exact ringN_len HX.out.1.n1
    obtain ⟨A2, c2, rfl, hc21, hc22⟩ := HF.out.2.slice
    rw [hl2] at hc21 HF ⊢
    simp only [maxLen] at hc22
    clear ht2 hk2 hb2 H1 hl2
    refine APost.mk ?_
    repeat ((first | refine pl_pur (by simp only [List.getD_cons_succ, List.getD_cons_zero]; rfl) _ (by rfl) (fun W => by go_simp; with_reducible rfl) ?_ | refine pl_rd (by simp only [List.getD_cons_succ, List.getD_cons_zero]; rfl) _ (by rfl) (fun W hW => by have hc := kcell hW; clear hW; go_simp; with_reducible rfl) ?_); simp only [Act.put, List.setIfInBounds_toArray, List.set_cons_zero, List.set_cons_succ])
    refine pl_fin ?_
    go_wp2
    go_loopw [27] (fun i wr => ∃ k : Nat, k ≤ x.n ∧ i = .int .i64 k ∧ Kept No w2 wr ∧ (∀ (j : Nat) t, j < k → (ringN x.n x.sender)[j]? = some t → lacksI x e t (nextS e t) = false)) (fun i _ => x.n - (intOf i).toNat)
    case atStart => exact ⟨0, Nat.zero_le _, by first | rfl | trivial, Kept.refl _ _, fun _ _ h => absurd h (Nat.not_lt_zero _)⟩
    case round =>
      obtain ⟨k, hk, rfl, hke, hno⟩ := hrel
      have HN : Hid (Kept No w wr ∧ (∀ (j : Nat) t, j < k → (ringN x.n x.sender)[j]? = some t → lacksI x e t (nextS e t) = false) ∧ Kept No w2 wr) := ⟨HF.out.1.trans hke, hno, hke⟩
      by_cases hlt : k < x.n
      · obtain ⟨s, hs⟩ : ∃ s, (ringN x.n x.sender)[k]? = some s := ⟨_, List.getElem?_eq_getElem (by rw [ringN_len HX.out.1.n1]; exact hlt)⟩
        have hsn := ringN_lt HX.out.1.sender s (List.mem_of_getElem? hs)
        have hns : (natI (ringN x.n x.sender))[k]? = some (s : Int) := by rw [natI, List.getElem?_map, hs]; rfl
        obtain ⟨g, o, _, ea, _, _⟩ := HF.out.2.get hns
        subst ea
        have z0 := (tw_int (HF.out.2.new hke) hns).2
        have hw8 : IntKind.u8.wrap (s : Int) = s := by simp [IntKind.wrap, IntKind.bits, IntKind.signed]; omega
        have hAt := at_any vh e.held s wr F (HX.out.2.2.1.new HN.out.1).hl
        obtain ⟨nx, hnx⟩ : ∃ nx, nx = nextS e s := ⟨_, rfl⟩
        have hw64 : IntKind.u64.wrap (vat e.held s + 1) = nx := hnx.symm
        have ka : Kept No wr (wr.alloc (.cells #[.int .u8 s, .int .u64 nx] 40)) := (Kept.refl _ _).alloc _
        have kwa : Kept No w (wr.alloc (.cells #[.int .u8 s, .int .u64 nx] 40)) := HN.out.1.trans ka
        have hL := lacks_any x px (HX.out.2.2.1.new kwa) (kwa.cell HX.out.2.2.2.1 id) (kwa.cell HX.out.2.2.2.2 id) s nx (by omega)
        obtain ⟨bv, hbv⟩ : ∃ bv, bv = lacksI x e s nx := ⟨_, rfl⟩
        rw [← hbv] at hL
        have HB : Hid (bv = lacksI x e s (nextS e s) ∧ (ringN x.n x.sender)[k]? = some s ∧ nx = nextS e s ∧ Kept No w (wr.alloc (.cells #[.int .u8 s, .int .u64 nx] 40))) := ⟨by rw [hbv, hnx], hs, hnx, kwa⟩
        clear hbv hs hns hnx hke hno ka kwa
        cases bv
        · go_wp2_with (first
            | (go_at_call 71; ((with_reducible refine hAt.mono ?_); rintro r w3 ⟨rfl, rfl⟩))
            | (go_at_call 56; go_must ((with_reducible refine hL.mono ?_); rintro r w4 ⟨rfl, hk4⟩; have HK4 : Hid (Kept No wr w4) := ((Kept.refl _ _).alloc _).trans hk4; clear hk4)))
          go_roundw
          case rel =>
            refine ⟨k + 1, by omega, by go_num, HN.out.2.2.trans HK4.out, fun j t hj ht => ?_⟩
            rcases Nat.lt_or_ge j k with h | h
            · exact HN.out.2.1 j t h ht
            · have : j = k := by omega
              subst this
              rw [HB.out.2.1] at ht
              injection ht with ht
              rw [← ht]
              exact HB.out.1.symm
          case measure => simp [intOf]; omega
        · go_wp2_with (first
            | (go_at_call 71; ((with_reducible refine hAt.mono ?_); rintro r w3 ⟨rfl, rfl⟩))
            | (go_at_call 56; go_must ((with_reducible refine hL.mono ?_); rintro r w4 ⟨rfl, hk4⟩; have HK4 : Hid (Kept No wr w4 ∧ Kept No w w4) := ⟨((Kept.refl _ _).alloc _).trans hk4, HB.out.2.2.2.trans hk4⟩; have hP4 := HX.out.2.1.kept HK4.out.2 id; have p3 := hP4.cell.2.2.2.1; have p4 := hP4.cell.2.2.2.2.1; have pf3 := hP4.fro 3; have pf4 := hP4.fro 4; have j0 : w4.cell? ⟨wr.heap.size, 0, none⟩ = some (.int .u8 s) := hk4.cell (by simp) id; have j1 : w4.cell? ⟨wr.heap.size, 1, none⟩ = some (.int .u64 nx) := hk4.cell (by simp) id; have hpl := lt_of_heap hP4; have HP4 : Hid (PxIs w4 px x (.pointer none)) := hP4; clear hk4 hP4)))
          refine bodyPost_ret (results_none (by rfl) _ _ _) rfl ?_
          have hP4 : w4.heap[px]? = some (.cells #[.int .i64 x.n, .int .i64 x.me, .int .i64 x.again, .pointer none, .int .i64 x.sender, .int .i64 x.last, .int .u64 x.count] 92 (0, 0)) := HP4.out
          have hfind := find_hit (p := fun s => lacksI x e s (nextS e s)) HB.out.2.1 HB.out.1.symm HN.out.2.1
          refine ⟨rfl, ?_, fun s' hs' => ?_, fun hs' => ?_⟩
          · exact (((Kept.no (F := fun k => k = px) HK4.out.2).setCell (p := ⟨px, 3, none⟩) (fun _ => rfl) _).setCell (p := ⟨px, 4, none⟩) (fun _ => rfl) _).alloc _
          · rw [hfind] at hs'
            injection hs' with hs'
            subst hs'
            refine ⟨w4.heap.size, HK4.out.2.size, ?_, ?_⟩
            · exact (Below.heap_alloc _ _ _ (by simpa using hpl)).trans (heap_setCell_same _ px 4 _ 92 _ (heap_setCell_same w4 px 3 _ 92 _ hP4))
            · have := heap_alloc_new ((w4.setCell ⟨px, 3, none⟩ (.pointer (some ⟨w4.heap.size, 0, none⟩))).setCell ⟨px, 4, none⟩ (.int .i64 s)) (.cells #[.int .u8 s, .int .u64 nx, .bool false, .int .i64 0] 95)
              simp only [World.size_setCell] at this
              rw [← HB.out.2.2.1]
              exact this
          · rw [hfind] at hs'; cases hs'
      · go_wp2
        go_end0
        have hkn : k = x.n := by omega
        have hm := find_miss (l := ringN x.n x.sender) (p := fun s => lacksI x e s (nextS e s)) (fun j t ht => HN.out.2.1 j t (by have := (List.getElem?_eq_some_iff.1 ht).1; rw [ringN_len HX.out.1.n1] at this; omega) ht)
        exact ⟨rfl, HN.out.1.no, fun s hs => (by rw [hm] at hs; cases hs), fun _ => HN.out.1⟩
end
end Go.Proofs.Ytfnecdkfhackkaa
