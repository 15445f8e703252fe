/- The package ident, eleventh part: slices.SortFunc over ids: the library's proved sort, laid at this program. -/
import Derived.Test.YtjokkmhndahnkaaI10
import Derived.Shelf.SlSortCmp.WholeK
import Derived.Shelf.SlSortCmp.NoneTotal
set_option linter.unusedVariables false
set_option linter.unusedSimpArgs false
namespace Go.Proofs.Ytjokkmhndahnkaa
open Go.RowKit Go.Shelf Go.Lib Go.Sort

def sortRen : Go.Shelf.Ren := ⟨fun | 6 => 30 | 15 => 40 | 14 => 39 | 28 => 53 | 29 => 54 | 20 => 45 | 21 => 46 | 22 => 47 | 23 => 48 | 24 => 49 | 25 => 50 | 26 => 51 | 27 => 52 | 46 => 57 | 47 => 58 | 48 => 59 | 49 => 60 | 50 => 61 | 57 => 62 | n => n, fun | 22 => 22 | 24 => 33 | 25 => 53 | 3 => 3 | 39 => 61 | 0 => 0 | 53 => 75 | 55 => 31 | 4 => 4 | 46 => 68 | 45 => 67 | 50 => 72 | 5 => 5 | 9 => 9 | 66 => 80 | 70 => 84 | 76 => 86 | 77 => 87 | n => n, fun | n => n⟩
theorem sortLay : Go.Proofs.SlLaysF0.n6 Try.prog sortRen := {
  mixed := by kernel_rfl,
  f6 := ⟨Try.f30.name, by decide, Try.func30.trans (congrArg some (by kernel_rfl))⟩,
  f14 := ⟨Try.f39.name, by decide, Try.func39.trans (congrArg some (by kernel_rfl))⟩,
  f15 := Try.func40.trans (congrArg some (by kernel_rfl)),
  f20 := ⟨Try.f45.name, by decide, Try.func45.trans (congrArg some (by kernel_rfl))⟩,
  f21 := ⟨Try.f46.name, by decide, Try.func46.trans (congrArg some (by kernel_rfl))⟩,
  f22 := ⟨Try.f47.name, by decide, Try.func47.trans (congrArg some (by kernel_rfl))⟩,
  f23 := ⟨Try.f48.name, by decide, Try.func48.trans (congrArg some (by kernel_rfl))⟩,
  f24 := ⟨Try.f49.name, by decide, Try.func49.trans (congrArg some (by kernel_rfl))⟩,
  f25 := ⟨Try.f50.name, by decide, Try.func50.trans (congrArg some (by kernel_rfl))⟩,
  f26 := ⟨Try.f51.name, by decide, Try.func51.trans (congrArg some (by kernel_rfl))⟩,
  f27 := ⟨Try.f52.name, by decide, Try.func52.trans (congrArg some (by kernel_rfl))⟩,
  f28 := Try.func53.trans (congrArg some (by kernel_rfl)),
  f29 := Try.func54.trans (congrArg some (by kernel_rfl)),
  f46 := ⟨Try.f57.name, by decide, Try.func57.trans (congrArg some (by kernel_rfl))⟩,
  f47 := Try.func58.trans (congrArg some (by kernel_rfl)),
  f48 := Try.func59.trans (congrArg some (by kernel_rfl)),
  f49 := ⟨Try.f60.name, by decide, Try.func60.trans (congrArg some (by kernel_rfl))⟩,
  f50 := ⟨Try.f61.name, by decide, Try.func61.trans (congrArg some (by kernel_rfl))⟩,
  f57 := ⟨Try.f62.name, by decide, Try.func62.trans (congrArg some (by kernel_rfl))⟩,
  t0 := Try.underlying0,
  a0 := Try.isAgg0,
  z0 := Try.sizeOf0,
  v0 := Try.zeroValue0,
  t3 := Try.underlying3,
  a3 := Try.isAgg3,
  z3 := Try.sizeOf3,
  v3 := Try.zeroValue3,
  t4 := Try.underlying4,
  a4 := Try.isAgg4,
  z4 := Try.sizeOf4,
  v4 := Try.zeroValue4,
  t5 := Try.underlying5,
  a5 := Try.isAgg5,
  z5 := Try.sizeOf5,
  v5 := Try.zeroValue5,
  t9 := Try.underlying9,
  a9 := Try.isAgg9,
  z9 := Try.sizeOf9,
  v9 := Try.zeroValue9,
  t22 := Try.underlying22,
  a22 := Try.isAgg22,
  z22 := Try.sizeOf22,
  v22 := Try.zeroValue22,
  t25 := Try.underlying53,
  a25 := Try.isAgg53,
  z25 := Try.sizeOf53,
  v25 := Try.zeroValue53,
  t39 := Try.underlying61,
  a39 := Try.isAgg61,
  z39 := Try.sizeOf61,
  v39 := Try.zeroValue61,
  t45 := Try.underlying67,
  a45 := Try.isAgg67,
  z45 := Try.sizeOf67,
  v45 := Try.zeroValue67,
  t46 := Try.underlying68,
  a46 := Try.isAgg68,
  z46 := Try.sizeOf68,
  v46 := Try.zeroValue68,
  t50 := Try.underlying72,
  a50 := Try.isAgg72,
  z50 := Try.sizeOf72,
  v50 := Try.zeroValue72,
  t53 := Try.underlying75,
  a53 := Try.isAgg75,
  z53 := Try.sizeOf75,
  v53 := Try.zeroValue75,
  t55 := Try.underlying31,
  a55 := Try.isAgg31,
  z55 := Try.sizeOf31,
  v55 := Try.zeroValue31,
  t66 := Try.underlying80,
  a66 := Try.isAgg80,
  z66 := Try.sizeOf80,
  v66 := Try.zeroValue80,
  t70 := Try.underlying84,
  a70 := Try.isAgg84,
  z70 := Try.sizeOf84,
  v70 := Try.zeroValue84,
  t76 := Try.underlying86,
  a76 := Try.isAgg86,
  z76 := Try.sizeOf86,
  v76 := Try.zeroValue86,
  t77 := Try.underlying87,
  a77 := Try.isAgg87,
  z77 := Try.sizeOf87,
  v77 := Try.zeroValue87 }

def encP (p : PID) : List Value := [.int .u8 p.1, .int .u64 p.2]
theorem ltOf_ord (a b : PID) : ltOf ordI a b = lessI a b := ordI_less a b
theorem swoID : SWO (ltOf ordI) where
  irrefl x := by rw [ltOf_ord]; exact lessI_irr x
  trans x y z h1 h2 := by rw [ltOf_ord] at *; exact lessI_trans h1 h2
  ntrans x y z h1 h2 := by
    rw [ltOf_ord] at *
    cases h : lessI x z
    · rfl
    · cases h3 : lessI y x
      · have := lessI_total h1 h3; subst this; rw [h2] at h; cases h
      · have := lessI_trans h3 h; rw [this] at h2; cases h2
set_option maxRecDepth 20000 in
theorem order_grow (a b c d : Int) (w : World) : Calls Try.prog 31 #[.agg #[.int .u8 a, .int .u64 b], .agg #[.int .u8 c, .int .u64 d]] w fun e w' => e = .returned (.int .i64 (ordI (a, b) (c, d))) ∧ ∃ q os', w' = grow (w.drewN q) os' := by
  obtain ⟨W, hW⟩ : ∃ W, W = ((w.alloc (.cells #[.int .u8 a, .int .u64 b] 33)).alloc (.cells #[.int .u8 c, .int .u64 d] 33)).drew := ⟨_, rfl⟩
  have c0 : W.cell? ⟨w.heap.size, 0, none⟩ = some (.int .u8 a) := by rw [hW, World.cell?_drew]; simp
  have c1 : W.cell? ⟨w.heap.size, 1, none⟩ = some (.int .u64 b) := by rw [hW, World.cell?_drew]; simp
  have c2 : W.cell? ⟨w.heap.size + 1, 0, none⟩ = some (.int .u8 c) := by rw [hW, World.cell?_drew]; simp
  have c3 : W.cell? ⟨w.heap.size + 1, 1, none⟩ = some (.int .u64 d) := by rw [hW, World.cell?_drew]; simp
  have h1 := compare8 a c W
  have h2 := compare64 b d W
  obtain ⟨x, hx⟩ : ∃ x, x = cmpI a c := ⟨_, rfl⟩
  obtain ⟨y, hy⟩ : ∃ y, y = cmpI b d := ⟨_, rfl⟩
  rw [← hx] at h1
  rw [← hy] at h2
  have h3 := or_two W.heap.size x y (W.alloc (.cells #[.int .i64 x, .int .i64 y] 3)) (by simp) (by simp)
  obtain ⟨z, hz⟩ : ∃ z, z = (if x = 0 then y else x) := ⟨_, rfl⟩
  rw [← hz] at h3
  have HR : Hid (z = ordI (a, b) (c, d)) := by rw [hz, hx, hy, ordI]; exact rfl
  clear hx hy hz
  have HW : Hid (W = ((w.alloc (.cells #[.int .u8 a, .int .u64 b] 33)).alloc (.cells #[.int .u8 c, .int .u64 d] 33)).drew) := hW
  clear hW
  go_enter Try.func31, Try.ntmps31
  go_wp2
  refine wp_region_plan No (.pur 0 (.pur 2 (.pur 5 (.pur 7 (.rd 1 (.rd 3 (.rd 6 (.rd 8 (.grow 4 (.grow 9 (.grow 10 (.grow 11 (.pur 12 .fin))))))))))))) [] mixed (by kernel_rfl) ?_
  rw [← HW.out]
  repeat ((first | refine pl_pur (by simp only [List.getD_cons_succ, List.getD_cons_zero]; rfl) _ (by rfl) (fun W => by go_simp; with_reducible rfl) ?_ | refine pl_rd (by simp only [List.getD_cons_succ, List.getD_cons_zero]; rfl) _ (by rfl) (fun W hW => by have hc := hW.cell (c0) id; clear hW; go_simp; with_reducible rfl) ?_ | refine pl_rd (by simp only [List.getD_cons_succ, List.getD_cons_zero]; rfl) _ (by rfl) (fun W hW => by have hc := hW.cell (c1) id; clear hW; go_simp; with_reducible rfl) ?_ | refine pl_rd (by simp only [List.getD_cons_succ, List.getD_cons_zero]; rfl) _ (by rfl) (fun W hW => by have hc := hW.cell (c2) id; clear hW; go_simp; with_reducible rfl) ?_ | refine pl_rd (by simp only [List.getD_cons_succ, List.getD_cons_zero]; rfl) _ (by rfl) (fun W hW => by have hc := hW.cell (c3) id; clear hW; go_simp; with_reducible rfl) ?_); simp only [Act.put, List.setIfInBounds_toArray, List.set_cons_zero, List.set_cons_succ])
  refine pl_grow (by simp only [List.getD_cons_succ, List.getD_cons_zero]; rfl) ?_
  go_wp2_with (go_at_call 42; ((with_reducible refine h1.mono ?_); rintro e w1 ⟨rfl, rfl⟩))
  refine GPost.mk (Kept.refl _ _) ?_
  refine pl_grow (by simp only [List.getD_cons_succ, List.getD_cons_zero]; rfl) ?_
  go_wp2_with (go_at_call 43; ((with_reducible refine h2.mono ?_); rintro e w1 ⟨rfl, rfl⟩))
  refine GPost.mk (Kept.refl _ _) ?_
  refine pl_grow (by simp only [List.getD_cons_succ, List.getD_cons_zero]; rfl) ?_
  go_wp2
  refine GPost.mk ((Kept.refl _ _).alloc _) ?_
  refine pl_grow (by simp only [List.getD_cons_succ, List.getD_cons_zero]; rfl) ?_
  go_wp2_with (go_at_call 41; ((with_reducible refine h3.mono ?_); rintro e w1 ⟨rfl, rfl⟩))
  refine GPost.mk (Kept.refl _ _) ?_
  repeat ((first | refine pl_pur (by simp only [List.getD_cons_succ, List.getD_cons_zero]; rfl) _ (by rfl) (fun W => by go_simp; with_reducible rfl) ?_ | refine pl_rd (by simp only [List.getD_cons_succ, List.getD_cons_zero]; rfl) _ (by rfl) (fun W hW => by have hc := kcell hW; clear hW; go_simp; with_reducible rfl) ?_); simp only [Act.put, List.setIfInBounds_toArray, List.set_cons_zero, List.set_cons_succ])
  refine pl_fin ?_
  go_wp2
  go_ret
  refine ⟨ret_int HR.out, ?_⟩
  rw [HW.out, alloc_eq_grow, alloc_eq_grow, alloc_eq_grow, grow_grow, drew_grow, grow_grow]
  exact ⟨1, _, rfl⟩

theorem holds_tw {w : World} {g off n c : Nat} {xs : List PID} (h : TW kID 33 w No (.slice (some ⟨g, off, none⟩) n c) xs) : HoldsK encP 2 w g off xs.toArray := by
  intro t ht
  rw [size_flatK] at ht
  simp only [List.size_toArray] at ht
  rw [get_flatK _ _ _ _ (by simpa using ht)]
  have hlt : t / 2 < xs.length := by omega
  obtain ⟨x, hx⟩ : ∃ x, xs[t / 2]? = some x := ⟨_, List.getElem?_eq_getElem hlt⟩
  have hget : xs.toArray[t / 2]! = x := by
    rw [getElem!_pos _ _ (by simpa using hlt)]
    simp only [List.getElem_toArray]
    obtain ⟨_, he⟩ := List.getElem?_eq_some_iff.1 hx
    exact he
  rw [hget]
  obtain ⟨_, hc⟩ := tw_ids h hx
  obtain ⟨_, cur, hcur⟩ := h.lt g rfl
  refine ⟨?_, frozen_of_row w g _ _ _ hcur⟩
  rcases (show t % 2 = 0 ∨ t % 2 = 1 by omega) with e | e
  · rw [e]
    have := hc 0 _ rfl
    rw [show off + t / 2 * 2 + 0 = off + t by omega] at this
    exact this
  · rw [e]
    have := hc 1 _ rfl
    rw [show off + t / 2 * 2 + 1 = off + t by omega] at this
    exact this
theorem TW.of_cells {w : World} {g off n c : Nat} {cur : Array Value} {ys : List PID} (hg : w.heap[g]? = some (.cells cur 33 (0, 0))) (hn : ys.length = n) (hc : n ≤ c) (hm : c ≤ maxLen) (hs : off + c * 2 ≤ cur.size)
    (hy : ∀ (j : Nat) y, ys[j]? = some y → okID y ∧ w.cell? ⟨g, off + j * 2, none⟩ = some (.int .u8 y.1) ∧ w.cell? ⟨g, off + j * 2 + 1, none⟩ = some (.int .u64 y.2)) : TW kID 33 w No (.slice (some ⟨g, off, none⟩) n c) ys := by
  have hsz : kID.sz = 2 := rfl
  have hl : ((cur.toList.drop off).take (n * 2)).length = n * 2 := by
    rw [List.length_take, List.length_drop, Array.length_toList]
    have := Nat.mul_le_mul_right 2 hc
    omega
  refine ⟨(cur.toList.drop off).take (n * 2), ⟨by rw [hn, hsz]; exact hl, .inr ⟨g, off, c, cur, by rw [hn], hg, by omega, hm, by rw [hsz]; exact hs, by rw [hn, hsz]⟩⟩, ⟨by rw [hn, hsz]; exact hl, fun j p hp => ?_⟩, fun _ _ h => h⟩
  obtain ⟨hok, h0, h1⟩ := hy j p hp
  have hj := (List.getElem?_eq_some_iff.1 hp).1
  refine ⟨?_, hok⟩
  rw [cell_of_row w _ _ _ _ _ hg] at h0 h1
  rw [hsz]
  apply List.ext_getElem?
  intro i
  rw [List.getElem?_take, List.getElem?_drop, List.getElem?_take, List.getElem?_drop, Array.getElem?_toList]
  match i with
  | 0 => rw [if_pos (by omega), if_pos (by omega), Nat.add_zero]; exact h0
  | 1 => rw [if_pos (by omega), if_pos (by omega), ← Nat.add_assoc]; exact h1
  | i + 2 => rw [if_neg (by omega)]; rfl

theorem heap_sort {w : World} {g off n : Nat} {d : Array PID} {os : Array Obj} {cur : Array Value} (hg : w.heap[g]? = some (.cells cur 33 (0, 0))) :
    ∃ cur', (sortWorldK encP 2 w g off n d os).heap[g]? = some (.cells cur' 33 (0, 0)) ∧ cur'.size = cur.size := by
  have hlt := lt_of_heap hg
  refine ⟨putCells id off (flatK encP 2 d) cur, ?_, by simp [putCells]⟩
  unfold sortWorldK putRowK putRow mapBlock
  rw [heap_grow_old _ _ (by simpa using hlt)]
  have hg2 : (Sort.ahead w n).heap[g]? = some (.cells cur 33 (0, 0)) := hg
  simp only [Array.getElem?_modify, if_true, hg2, Option.map_some, onCells]
theorem kept_sort {w : World} {g off n : Nat} {d : Array PID} {os : Array Obj} : Kept (fun k => k = g) w (sortWorldK encP 2 w g off n d os) := by
  refine ⟨rfl, rfl, rfl, size_sortWorldK_c encP 2 w g off n d os, fun k hk hn => ?_⟩
  unfold sortWorldK putRowK putRow mapBlock
  rw [heap_grow_old _ _ (by simpa using hk)]
  have hne : ¬ g = k := fun e => hn e.symm
  simp only [Array.getElem?_modify, hne, if_false]
  rfl

theorem sort_op (v : Value) (xs : List PID) (w : World) (h : TW kID 33 w No v xs) (hlen : xs.length ≤ 1000) :
    Calls Try.prog 30 #[v, .func (.func 31) #[] #[]] w fun e w' => e = .returned (.tuple #[]) ∧ ∃ ys, ys.Perm xs ∧ ys.Pairwise (fun a b => lessI b a = false) ∧ TW kID 33 w' No v ys ∧ Kept (fun k => v.ownBlock = some k) w w' := by
  have hh := h
  obtain ⟨cs, h1, _⟩ := hh
  rcases h1.2 with ⟨rfl, h0⟩ | ⟨g, off, c, cur, rfl, hg, hc1, hc2, hc3, _⟩
  · have hx : xs = [] := List.eq_nil_of_length_eq_zero h0
    subst hx
    refine (AnyF.slices_SortFunc_none sortLay none 0 (.func (.func 31) #[] #[]) w).mono ?_
    rintro e w' ⟨rfl, rfl⟩
    exact ⟨rfl, [], List.Perm.refl _, List.Pairwise.nil, TW.nil _ _ _ _, Kept.refl _ _⟩
  · have hH := holds_tw h
    have eg : ∀ args w, (callFunc 31 args).run Try.prog w = .ok (.enter 31 args) w := enters_of Try.func31 (by kernel_rfl) rfl
    have hcmp : CmpLays Try.prog 31 #[] encP 2 ordI g off xs.toArray.size w := fun m os dk _ x y => order_grow x.1 x.2 y.1 y.2 _
    have hcon := AnyQ.slices_SortFunc sortLay 2 Try.isAgg33 Try.sizeOf33 encP (fun _ => rfl) (fun x v hv => by simp [encP] at hv; rcases hv with rfl | rfl <;> rfl) ordI swoID 31 #[] g off c xs.toArray w eg hcmp hH (lt_of_heap hg) (by simp; omega)
    change Calls Try.prog 30 _ _ _ at hcon
    simp only [List.size_toArray] at hcon
    refine hcon.mono ?_
    rintro e w' ⟨rfl, d', n, os, hp, hs, rfl⟩
    obtain ⟨hp1, hp2, hp3⟩ := hp
    simp only [List.size_toArray] at hp1
    have hd : d'.extract 0 xs.length = d' := by rw [← hp1]; simp
    have hx : xs.toArray.extract 0 xs.length = xs.toArray := by simp
    rw [hd, hx] at hp3
    obtain ⟨cur', hg', hsz'⟩ := heap_sort (off := off) (n := n) (d := d') (os := os) hg
    have hH' := holdsK_sortWorldK_c encP 2 w g off xs.toArray d' n os hH (lt_of_heap hg) (by simpa using hp1)
    have hsz : kID.sz = 2 := rfl
    rw [hsz] at hc3
    have hok : ∀ y ∈ d'.toList, okID y := fun y hy => by
      have hm : y ∈ xs := by have := hp3.mem_iff.1 hy; simpa using this
      obtain ⟨j, hj⟩ := List.mem_iff_getElem?.1 hm
      exact (tw_ids h hj).1
    refine ⟨rfl, d'.toList, by simpa using hp3, ?_, TW.of_cells hg' (by simpa using hp1) hc1 hc2 (by omega) (fun j y hy => ?_), kept_sort.mono fun k _ e => by rw [e]; rfl⟩
    · rw [List.pairwise_iff_getElem]
      intro i j hi hj hij
      have := hs i j (Nat.zero_le _) hij (by simpa [hp1] using hj)
      rw [ltOf_ord] at this
      simp only [Array.length_toList] at hi hj
      rw [getElem!_pos d' _ hj, getElem!_pos d' _ hi] at this
      simpa using this
    · have hj : j < d'.size := by have := (List.getElem?_eq_some_iff.1 hy).1; simpa using this
      have hget : d'[j]! = y := by
        rw [getElem!_pos d' _ hj]
        obtain ⟨_, he⟩ := List.getElem?_eq_some_iff.1 hy
        simpa using he
      have e0 := (hH'.cell (i := j) (c := 0) hj (by omega)).1
      have e1 := (hH'.cell (i := j) (c := 1) hj (by omega)).1
      rw [hget] at e0 e1
      exact ⟨hok y (List.mem_of_getElem? hy), e0, e1⟩
end Go.Proofs.Ytjokkmhndahnkaa
