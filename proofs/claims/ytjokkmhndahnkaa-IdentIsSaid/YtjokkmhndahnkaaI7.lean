/- The package ident, seventh part: List. -/
import Derived.Test.YtjokkmhndahnkaaI6
import Derived.Test.YtjokkmhndahnkaaClone
set_option linter.unusedVariables false
set_option linter.unusedSimpArgs false
namespace Go.Proofs.Ytjokkmhndahnkaa
open Go.RowKit

def listP (most : Int) (xs : List PRun) : List PID := if most < 0 then [] else if most < countI xs then [] else if xs.all runI then listI xs else []
theorem src_new2 {w : World} {N : Nat} {e : TypeId} {a b : Value} (hN : w.heap.size = N) (ha : a.oneCell' = true) (hb : b.oneCell' = true) : Src (w.alloc (.cells #[a, b] e)) (fun k => k = N) 2 (.slice (some ⟨N, 0, none⟩) 1 1) 1 [a, b] := by
  subst hN
  refine ⟨_, 1, rfl, Nat.le_refl _, by decide, rfl, fun u hu => ?_, fun _ => ⟨w.heap.size, 0, rfl, rfl, fun j u hj => ?_⟩⟩
  · simp at hu; rcases hu with rfl | rfl <;> assumption
  · match j with
    | 0 => have : a = u := by simpa using hj
           subst this; simp
    | 1 => have : b = u := by simpa using hj
           subst this; simp
    | j + 2 => simp at hj
theorem reps_id {w : World} {F : Nat → Prop} {p : PID} (h : okID p) : Reps (kID.K w F) kID.sz [p] [.int .u8 p.1, .int .u64 p.2] := Reps.single ⟨rfl, h⟩ rfl
theorem list_room {xs : List PRun} {k : Nat} {x : PRun} (hx : xs[k]? = some x) (hr : ∀ y ∈ xs.take k, runI y = true) (hrx : runI x = true) (hc : countI xs ≤ 300) : (listI (xs.take k)).length + x.2.2.toNat ≤ 300 := by
  have h1 := listI_len hr
  have h2 : sumI xs = sumI (xs.take (k + 1)) + sumI (xs.drop (k + 1)) := by rw [← sumI_append, List.take_append_drop]
  have h3 := sumI_nonneg (xs.drop (k + 1))
  have h4 : sumI (xs.take (k + 1)) = sumI (xs.take k) + x.2.2 := by
    rw [take_succ_snoc hx, sumI_append, sumI_cons, if_pos hrx]
    have : sumI ([] : List PRun) = 0 := rfl
    omega
  have h5 := runI_iff.1 hrx
  unfold countI at hc
  omega
theorem listI_take {xs : List PRun} {k : Nat} {x : PRun} (hx : xs[k]? = some x) : listI (xs.take (k + 1)) = listI (xs.take k) ++ idsOf x := by
  rw [take_succ_snoc hx, listI_append]; simp [listI]
theorem idsOf_take {x : PRun} {j : Nat} (h : j < x.2.2.toNat) : (idsOf x).take (j + 1) = (idsOf x).take j ++ [(x.1, x.2.1 + (j : Int))] := take_succ_snoc (idsOf_get h)
theorem idsOf_take_all {x : PRun} : (idsOf x).take x.2.2.toNat = idsOf x := by rw [List.take_of_length_le (by rw [idsOf_len]; exact Nat.le_refl _)]
theorem runs_take {xs : List PRun} {k : Nat} {x : PRun} (hx : xs[k]? = some x) (hr : ∀ y ∈ xs.take k, runI y = true) (hrx : runI x = true) : ∀ y ∈ xs.take (k + 1), runI y = true := by
  intro y hy
  rw [take_succ_snoc hx] at hy
  rcases List.mem_append.1 hy with h | h
  · exact hr y h
  · rw [List.mem_singleton.1 h]; exact hrx
def RunAt (w : World) (N : Nat) (a b c : Int) : Prop := w.cell? ⟨N, 0, none⟩ = some (.int .u8 a) ∧ w.cell? ⟨N, 1, none⟩ = some (.int .u64 b) ∧ w.cell? ⟨N, 2, none⟩ = some (.int .u64 c)
theorem RunAt.kept {w w' : World} {F : Nat → Prop} {N : Nat} {a b c : Int} (h : RunAt w N a b c) (hk : Kept F w w') (hF : ¬ F N) : RunAt w' N a b c := ⟨hk.cell h.1 hF, hk.cell h.2.1 hF, hk.cell h.2.2 hF⟩
theorem list_no_run {most : Int} {xs : List PRun} {k : Nat} {x : PRun} (hx : xs[k]? = some x) (h : runI x = false) : listP most xs = [] := by
  unfold listP
  have : xs.all runI = false := by
    rw [List.all_eq_false]
    exact ⟨x, List.mem_of_getElem? hx, by simp [h]⟩
  rw [this]
  simp
theorem list_all {most : Int} {xs : List PRun} (h0 : ¬ most < 0) (h1 : ¬ most < countI xs) (h : ∀ y ∈ xs, runI y = true) : listP most xs = listI xs := by
  unfold listP
  have : xs.all runI = true := List.all_eq_true.2 h
  rw [if_neg h0, if_neg h1, this]
  rfl

set_option maxRecDepth 20000 in
set_option maxHeartbeats 1000000 in
theorem list_op (most : Int) (v : Value) (xs : List PRun) (w : World) (F : Nat → Prop) (hv : Sl kRun w F v xs) (hm : -9223372036854775808 ≤ most ∧ most ≤ 300) :
    Calls Try.prog 15 #[.int .i64 most, v] w fun e w' => ∃ v', e = .returned v' ∧ TW kID 33 w' No v' (listP most xs) ∧ Fresh w v' ∧ Kept No w w' := by
  have hcount := count_op v xs w F hv
  by_cases hneg : most < 0
  · have hl : listP most xs = [] := by unfold listP; rw [if_pos hneg]
    rw [hl]
    go_enter Try.func15, Try.ntmps15
    go_wp2
    go_ret
    exact ⟨_, rfl, TW.nil _ _ _ _, Fresh.nil _, Kept.refl _ _⟩
  · have hwm : IntKind.u64.wrap most = most := by rw [IntKind.wrap_u64]; omega
    by_cases hbig : most < countI xs
    · have hl : listP most xs = [] := by unfold listP; rw [if_neg hneg, if_pos hbig]
      rw [hl]
      generalize countI xs = C at hcount hbig
      go_enter Try.func15, Try.ntmps15
      go_wp2_with (go_at_call 25; ((with_reducible refine hcount.mono ?_); rintro e w1 ⟨rfl, hk1⟩))
      go_ret
      exact ⟨_, rfl, TW.nil _ _ _ _, Fresh.nil _, hk1⟩
    · obtain ⟨C, hC⟩ : ∃ C, C = countI xs := ⟨_, rfl⟩
      rw [← hC] at hcount
      have hbig2 : ¬ most < C := by rw [hC]; exact hbig
      obtain ⟨A, c0, rfl, hc1, hc2⟩ := hv.slice
      simp only [maxLen] at hc2
      obtain ⟨n, hn⟩ : ∃ n, n = xs.length := ⟨_, rfl⟩
      rw [← hn] at hc1 hcount ⊢
      obtain ⟨L, hL⟩ : ∃ L, L = listP most xs := ⟨_, rfl⟩
      rw [← hL]
      have HH : Hid (n = xs.length ∧ countI xs ≤ 300 ∧ Sl kRun w F (.slice A xs.length c0) xs ∧ L = listP most xs ∧ ¬ most < 0 ∧ ¬ most < countI xs) := ⟨hn, by omega, hv, hL, hneg, hbig⟩
      clear hn hC hv hm hbig hL
      go_enter Try.func15, Try.ntmps15
      go_wp2_with (go_at_call 25; ((with_reducible refine hcount.mono ?_); rintro e w1 ⟨rfl, hk1⟩))
      have H1 : Hid (Kept No w w1) := hk1
      clear hcount hk1
      go_loopw [5, 20] (fun o i wr => ∃ k : Nat, k ≤ n ∧ i = .int .i64 k ∧ (∀ y ∈ xs.take k, runI y = true) ∧ TW kID 33 wr No o (listI (xs.take k)) ∧ Fresh w o ∧ Kept No w wr) (fun _ i _ => n - (intOf i).toNat)
      case atStart => exact ⟨0, Nat.zero_le _, by first | rfl | trivial, by simp, TW.nil _ _ _ _, Fresh.nil _, H1.out⟩
      case round =>
        obtain ⟨k, hk, rfl, hrun, htw, hfr, hke⟩ := hrel
        by_cases hlt : k < n
        · obtain ⟨x, hx⟩ : ∃ x, xs[k]? = some x := ⟨_, List.getElem?_eq_getElem (by rw [← HH.out.1]; exact hlt)⟩
          rcases sl_runs HH.out.2.2.1 with ⟨e, _⟩ | ⟨_, _, b, off, c', e, _, _, _, _, hcx⟩
          · rw [e] at hx; simp at hx
          · simp only [Value.slice.injEq] at e
            obtain ⟨rfl, _, rfl⟩ := e
            obtain ⟨hok, hcell⟩ := hcx k x hx
            obtain ⟨x1, x2, x3⟩ := x
            simp only at hcell
            have HC : Hid (∀ i u, [Value.int .u8 x1, .int .u64 x2, .int .u64 x3][i]? = some u → wr.cell? ⟨b, off + k * 3 + i, none⟩ = some u) := fun i u hu => hke.cell (hcell i u hu) id
            have hcall := fun W => run_op x1 x2 x3 W hok
            obtain ⟨bv, hbv⟩ : ∃ bv, bv = runI (x1, x2, x3) := ⟨_, rfl⟩
            rw [← hbv] at hcall
            obtain ⟨N, hN⟩ : ∃ N, N = wr.heap.size := ⟨_, rfl⟩
            have HB : Hid (bv = runI (x1, x2, x3) ∧ xs[k]? = some (x1, x2, x3) ∧ okRun (x1, x2, x3) ∧ (∀ y ∈ xs.take k, runI y = true)) := ⟨hbv, hx, hok, hrun⟩
            have HK : Hid (TW kID 33 wr No u5 (listI (xs.take k)) ∧ Fresh w u5 ∧ Kept No w wr ∧ N = wr.heap.size) := ⟨htw, hfr, hke, hN⟩
            have HQ : Hid (∀ w2, Kept No (wr.alloc (.cells #[.int .u8 x1, .int .u64 x2, .int .u64 x3] 40)) w2 → RunAt w2 N x1 x2 x3) := fun w2 h2 => by
              subst hN; exact ⟨h2.cell (by simp) id, h2.cell (by simp) id, h2.cell (by simp) id⟩
            clear hbv hx hcell hke hok hrun htw hfr hcx hN
            cases bv
            · go_wp2_with (first | (with_reducible refine wpList_load_whole rfl (.tmp 22) 40 rfl b (off + k * 3) rfl _ agg40 HC.out ?_) | (go_at_call 20; ((with_reducible refine (hcall _).mono ?_); rintro e w2 ⟨rfl, hk2⟩)))
              go_ret
              refine ⟨_, rfl, ?_, Fresh.nil _, (HK.out.2.2.1.alloc _).trans hk2⟩
              rw [HH.out.2.2.2.1, list_no_run HB.out.2.1 HB.out.1.symm]
              exact TW.nil _ _ _ _
            · have hr := runI_iff.1 HB.out.1.symm
              simp only at hr
              have ho := okRun_iff.1 HB.out.2.2.1
              simp only at ho
              have hroom := list_room HB.out.2.1 HB.out.2.2.2 HB.out.1.symm HH.out.2.1
              simp only at hroom
              obtain ⟨cn, hcn⟩ : ∃ cn : Nat, x3 = cn := ⟨x3.toNat, by omega⟩
              subst hcn
              have HR : Hid ((1 ≤ x2 ∧ x2 + cn ≤ 4611686018427387905 ∧ 0 ≤ x1 ∧ x1 ≤ 255) ∧ (listI (xs.take k)).length + cn ≤ 300) := ⟨by omega, by omega⟩
              have hcn3 : cn ≤ 300 := by omega
              clear hr ho hroom
              have HNN := HK.out.2.2.2
              go_wp2_with (first | (with_reducible refine wpList_load_whole rfl (.tmp 22) 40 rfl b (off + k * 3) rfl _ agg40 HC.out ?_) | (go_at_call 20; ((with_reducible refine (hcall _).mono ?_); rintro e w2 ⟨rfl, hk2⟩; have hra := HQ.out w2 hk2; have r2 := hra.2.2; rw [HNN] at r2; have H2 : Hid (RunAt w2 N x1 x2 cn ∧ Kept No w w2 ∧ TW kID 33 w2 No u5 (listI (xs.take k)) ∧ ∀ j, u5.ownBlock = some j → j ≠ N) := ⟨hra, (HK.out.2.2.1.alloc _).trans hk2, HK.out.1.new (((Kept.refl No wr).alloc _).trans hk2), fun j hj e => by have := (HK.out.1.lt j hj).1; omega⟩; clear hra hk2)))
              go_loopw [5, 29] (fun o i wi => ∃ j : Nat, j ≤ cn ∧ i = .int .u64 j ∧ TW kID 33 wi No o (listI (xs.take k) ++ (idsOf (x1, x2, (cn : Int))).take j) ∧ Fresh w o ∧ Kept No w wi ∧ RunAt wi N x1 x2 cn ∧ (∀ j, o.ownBlock = some j → j ≠ N)) (fun _ i _ => cn - (intOf i).toNat)
              case atStart => exact ⟨0, Nat.zero_le _, by first | rfl | trivial, by simpa using H2.out.2.2.1, HK.out.2.1, H2.out.2.1, H2.out.1, H2.out.2.2.2⟩
              case round =>
                obtain ⟨j, hj, rfl, htw, hfr, hke, hra, hne⟩ := hrel
                by_cases hjl : j < cn
                · obtain ⟨p, hp⟩ : ∃ p : PID, p = (x1, x2 + (j : Int)) := ⟨_, rfl⟩
                  have hw64 : IntKind.u64.wrap (x2 + (j : Int)) = x2 + (j : Int) := by have := HR.out.1; rw [IntKind.wrap_u64]; omega
                  have hokp : okID p := by rw [hp, okID_iff]; have := HR.out.1; simp only; omega
                  have ka : Kept No wr (wr.alloc (.cells #[.int .u8 p.1, .int .u64 p.2] 33)) := (Kept.refl _ _).alloc _
                  obtain ⟨Z, hZ⟩ : ∃ Z, Z = listI (xs.take k) ++ (idsOf (x1, x2, (cn : Int))).take j := ⟨_, rfl⟩
                  rw [← hZ] at htw
                  have hZl : Z.length ≤ 299 := by
                    rw [hZ, List.length_append, List.length_take]
                    have := HR.out.2
                    omega
                  have hsr := src_new2 (w := wr) (N := wr.heap.size) (e := 33) (a := .int .u8 p.1) (b := .int .u64 p.2) rfl rfl rfl
                  have HT : Hid (TW kID 33 (wr.alloc (.cells #[.int .u8 p.1, .int .u64 p.2] 33)) No u5 Z ∧ Src (wr.alloc (.cells #[.int .u8 p.1, .int .u64 p.2] 33)) (fun k => k = wr.heap.size) 2 (.slice (some ⟨wr.heap.size, 0, none⟩) 1 1) 1 [.int .u8 p.1, .int .u64 p.2] ∧ okID p ∧ Z.length ≤ 299) := ⟨htw.new ka, hsr, hokp, hZl⟩
                  have HE : Hid (Fresh w u5 ∧ Kept No w wr ∧ RunAt wr N x1 x2 cn ∧ (∀ j, u5.ownBlock = some j → j ≠ N) ∧ N < wr.heap.size ∧ Z ++ [p] = listI (xs.take k) ++ (idsOf (x1, x2, (cn : Int))).take (j + 1)) := ⟨hfr, hke, hra, hne, World.block_lt_of_cell? _ _ hra.1, by
                    rw [hZ, hp, idsOf_take (x := (x1, x2, (cn : Int))) (by simpa using hjl), List.append_assoc]⟩
                  have c1 := hra.1
                  have c2 := hra.2.1
                  rw [HNN] at c1 c2
                  rw [hp] at HT
                  simp only at HT
                  clear hZ hZl hsr ka hokp htw hfr hke hra hne
                  go_wp2_with (at_builtin; go_must (refine wpList_append_tw (d := kID) (G := No) (F := fun k' => k' = wr.heap.size) rfl (.tmp 32) (.tmp 40) 22 rfl 33 (.agg #[.int .u8 0, .int .u64 0]) 16 Try.underlying22 cinfo_ids rfl _ _ 1 Z [(x1, x2 + (j : Int))] [.int .u8 x1, .int .u64 (x2 + (j : Int))] rfl HT.out.1 rfl HT.out.2.1 (reps_id HT.out.2.2.1) rfl (fun _ h => h.elim) ?_ ?_ ?_))
                  · have := HT.out.2.2.2; simp only [maxLen]; omega
                  · have := HT.out.2.2.2; omega
                  · intro v' w' htw2 hk2 hb2
                    have e1 := HE.out.2.2.2.2.2
                    rw [hp] at e1
                    rw [e1] at htw2
                    have HF : Hid (TW kID 33 w' No v' (listI (xs.take k) ++ (idsOf (x1, x2, (cn : Int))).take (j + 1)) ∧ Fresh w v' ∧ Kept No w w' ∧ RunAt w' N x1 x2 cn ∧ (∀ j, v'.ownBlock = some j → j ≠ N)) := ⟨htw2, HE.out.1.next (w := wr.alloc (.cells #[.int .u8 x1, .int .u64 (x2 + (j : Int))] 33)) (by have := HE.out.2.1.size; simp; omega) (by simpa using hb2), (HE.out.2.1.alloc _).fresh hk2 HE.out.1,
                      (HE.out.2.2.1.kept ((Kept.refl No wr).alloc _) id).kept hk2 (fun h => HE.out.2.2.2.1 N h rfl), fun i hi e => by
                        rcases hb2 with hb | hb
                        · exact HE.out.2.2.2.1 i (hb ▸ hi) e
                        · rw [hb] at hi; simp at hi; have := HE.out.2.2.2.2.1; omega⟩
                    clear htw2 hk2 hb2 e1
                    go_wp2
                    go_roundw
                    case rel => exact ⟨j + 1, by omega, by go_num, HF.out.1, HF.out.2.1, HF.out.2.2.1, HF.out.2.2.2.1, HF.out.2.2.2.2⟩
                    case measure => simp [intOf]; omega
                · have : j = cn := by omega
                  subst this
                  have e2 : listI (xs.take (k + 1)) = listI (xs.take k) ++ (idsOf (x1, x2, (j : Int))).take j := by
                    rw [listI_take HB.out.2.1]
                    congr 1
                    rw [List.take_of_length_le]
                    rw [idsOf_len]; simp
                  rw [← e2] at htw
                  have HF : Hid (TW kID 33 wr No u5 (listI (xs.take (k + 1))) ∧ Fresh w u5 ∧ Kept No w wr ∧ (∀ y ∈ xs.take (k + 1), runI y = true)) := ⟨htw, hfr, hke, runs_take HB.out.2.1 HB.out.2.2.2 HB.out.1.symm⟩
                  clear htw hfr hke hra hne e2
                  go_wp2
                  go_roundw
                  case rel => exact ⟨k + 1, by omega, by go_num, HF.out.2.2.2, HF.out.1, HF.out.2.1, HF.out.2.2.1⟩
                  case measure => simp [intOf]; omega
        · go_wp2
          go_ret
          have : k = n := by omega
          subst this
          refine ⟨_, rfl, ?_, hfr, hke⟩
          have hx : xs.take k = xs := by rw [HH.out.1]; simp
          rw [hx] at htw hrun
          rw [HH.out.2.2.2.1, list_all (by have := HH.out.2.2.2.2.1; omega) (by have := HH.out.2.2.2.2.2; omega) hrun]
          exact htw
end Go.Proofs.Ytjokkmhndahnkaa
