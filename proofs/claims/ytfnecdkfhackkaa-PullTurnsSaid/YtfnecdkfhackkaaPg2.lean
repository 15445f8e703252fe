/- slices.DeleteFunc over ints: the library's proved contract, laid at this program; the helpers of an id. -/
import Derived.Test.YtfnecdkfhackkaaPg1
import Derived.Shelf.SlicesE.DeleteFunc
set_option linter.unusedVariables false
set_option linter.unusedSimpArgs false
namespace Go.Proofs.Ytfnecdkfhackkaa
open Go.RowKit Go.Shelf Go.Lib Go.Sort

def delRen : Go.Shelf.Ren := ⟨fun | 10 => 72 | 6 => 81 | n => n, fun | 22 => 42 | 23 => 3 | 25 => 55 | 3 => 3 | 4 => 4 | 0 => 0 | n => n, fun | n => n⟩
theorem delLay : Go.Proofs.SlLaysH.n10 Try.prog delRen := {
  mixed := by kernel_rfl,
  f6 := ⟨Try.f81.name, by decide, Try.func81.trans (congrArg some (by kernel_rfl))⟩,
  f10 := ⟨Try.f72.name, by decide, Try.func72.trans (congrArg some (by kernel_rfl))⟩,
  t0 := Try.underlying0,
  a0 := Try.isAgg0,
  z0 := Try.sizeOf0,
  v0 := Try.zeroValue0,
  t3 := Try.underlying3,
  a3 := Try.isAgg3,
  z3 := Try.sizeOf3,
  v3 := Try.zeroValue3,
  t4 := Try.underlying4,
  a4 := Try.isAgg4,
  z4 := Try.sizeOf4,
  v4 := Try.zeroValue4,
  t22 := Try.underlying42,
  a22 := Try.isAgg42,
  z22 := Try.sizeOf42,
  v22 := Try.zeroValue42,
  a23 := Try.isAgg3,
  z23 := Try.sizeOf3,
  t25 := Try.underlying55,
  a25 := Try.isAgg55,
  z25 := Try.sizeOf55,
  v25 := Try.zeroValue55 }

theorem indexFunc_nil2 (A : Option Addr) (c : Nat) (fn : Value) (w : World) : Calls Try.prog 81 #[.slice A 0 c, fn] w fun e w' => e = .returned (.int .i64 (-1)) ∧ w = w' := by
  go_enter Try.func81, Try.ntmps81
  go_wp2
  go_loopw [8] (fun i wr => i = .int .i64 0 ∧ w = wr) (fun _ _ => 0)
  case atStart => exact ⟨rfl, rfl⟩
  case round =>
    obtain ⟨rfl, rfl⟩ := hrel
    go_wp2
    go_ret
    exact ⟨rfl, rfl⟩
theorem deleteFunc_nil2 (A : Option Addr) (c : Nat) (fn : Value) (w : World) : Calls Try.prog 72 #[.slice A 0 c, fn] w fun e w' => e = .returned (.slice A 0 c) ∧ w = w' := by
  have h := indexFunc_nil2 A c fn w
  go_enter Try.func72, Try.ntmps72
  go_wp2_with (go_at_call 81; ((with_reducible refine h.mono ?_); rintro e w1 ⟨rfl, rfl⟩))
  go_ret
  exact ⟨rfl, rfl⟩
theorem tw_int {w : World} {g off n c : Nat} {ys : List Int} (h : TW (kI .i64) 3 w No (.slice (some ⟨g, off, none⟩) n c) ys) {j : Nat} {x : Int} (hx : ys[j]? = some x) : InR .i64 x ∧ w.cell? ⟨g, off + j, none⟩ = some (.int .i64 x) := by
  obtain ⟨b, o, cs, e, ⟨rfl, hr⟩, hc⟩ := h.get hx
  simp only [Option.some.injEq, Addr.mk.injEq] at e
  obtain ⟨rfl, rfl, _⟩ := e
  have := hc 0 _ rfl
  simp only [kI, flat, Nat.mul_one, Nat.add_zero] at this
  exact ⟨hr, this⟩
theorem TW.of_ints {w : World} {g off n c : Nat} {cur : Array Value} {ys : List Int} (hg : w.heap[g]? = some (.cells cur 3 (0, 0))) (hn : ys.length = n) (hc : n ≤ c) (hm : c ≤ maxLen) (hs : off + c ≤ cur.size)
    (hy : ∀ (j : Nat) y, ys[j]? = some y → InR .i64 y ∧ w.cell? ⟨g, off + j, none⟩ = some (.int .i64 y)) : TW (kI .i64) 3 w No (.slice (some ⟨g, off, none⟩) n c) ys := by
  have hsz : (kI .i64).sz = 1 := rfl
  have hl : ((cur.toList.drop off).take (n * 1)).length = n * 1 := by
    rw [List.length_take, List.length_drop, Array.length_toList]
    omega
  refine ⟨(cur.toList.drop off).take (n * 1), ⟨by rw [hn, hsz]; exact hl, .inr ⟨g, off, c, cur, by rw [hn], hg, by omega, hm, by rw [hsz]; omega, by rw [hn, hsz]⟩⟩, ⟨by rw [hn, hsz]; exact hl, fun j p hp => ?_⟩, fun _ _ h => h⟩
  obtain ⟨hok, h0⟩ := hy j p hp
  have hj := (List.getElem?_eq_some_iff.1 hp).1
  refine ⟨?_, hok⟩
  rw [cell_of_row w _ _ _ _ _ hg] at h0
  rw [hsz]
  apply List.ext_getElem?
  intro i
  rw [List.getElem?_take, List.getElem?_drop, List.getElem?_take, List.getElem?_drop, Array.getElem?_toList]
  match i with
  | 0 => rw [if_pos (by omega), if_pos (by omega), Nat.mul_one, Nat.add_zero]; exact h0
  | i + 1 => rw [if_neg (by omega)]; rfl
theorem kept_row {w : World} {g off n : Nat} {d : Array Int} {os : Array Obj} : Kept (fun k => k = g) w (sortWorld (Value.int .i64) w g off n d os) := by
  refine ⟨rfl, rfl, rfl, ?_, fun k hk hn => ?_⟩
  · unfold sortWorld
    rw [size_grow, size_putRow]
    exact Nat.le_add_right _ _
  · unfold sortWorld putRow mapBlock
    rw [heap_grow_old _ _ (by simpa using hk)]
    have hne : ¬ g = k := fun e => hn e.symm
    simp only [Array.getElem?_modify, hne, if_false]
    rfl
theorem kept_put {w : World} {g off n : Nat} {d : Array Int} : Kept (fun k => k = g) w (putRow (Value.int .i64) (Sort.ahead w n) g off d) := by
  refine ⟨rfl, rfl, rfl, ?_, fun k hk hn => ?_⟩
  · rw [size_putRow]; exact Nat.le_refl _
  · unfold putRow mapBlock
    have hne : ¬ g = k := fun e => hn e.symm
    simp only [Array.getElem?_modify, hne, if_false]
    rfl
theorem deleteInts (v : Value) (xs : List Int) (w : World) (h : TW (kI .i64) 3 w No v xs) (g : Nat) (lb : Array Value) (p : Int → Bool) (eg : ∀ args w, (callFunc g args).run Try.prog w = .ok (.enter g args) w)
    (HP : ∀ W x, Kept (fun k => v.ownBlock = some k) w W → Calls Try.prog g (#[.int .i64 x] ++ lb) W fun e w' => e = .returned (.bool (p x)) ∧ W = w') :
    Calls Try.prog 72 #[v, .func (.func g) #[] lb] w fun e w' => ∃ v', e = .returned v' ∧ TW (kI .i64) 3 w' No v' (xs.filter fun x => !p x) ∧ v'.ownBlock = v.ownBlock ∧ Kept (fun k => v.ownBlock = some k) w w' := by
  have hh := h
  obtain ⟨cs, h1, _⟩ := hh
  rcases h1.2 with ⟨rfl, h0⟩ | ⟨b, off, c, cur, rfl, hg, hc1, hc2, hc3, _⟩
  · have hx : xs = [] := List.eq_nil_of_length_eq_zero h0
    subst hx
    refine (deleteFunc_nil2 none 0 (.func (.func g) #[] lb) w).mono ?_
    rintro e w' ⟨rfl, rfl⟩
    exact ⟨_, rfl, TW.nil _ _ _ _, rfl, Kept.refl _ _⟩
  · have hsz : (kI .i64).sz = 1 := rfl
    rw [hsz] at hc3
    have hH : Holds (Value.int .i64) w b off xs.toArray := fun j hj => by
      simp only [List.size_toArray] at hj
      obtain ⟨x, hx⟩ : ∃ x, xs[j]? = some x := ⟨_, List.getElem?_eq_getElem hj⟩
      have hget : xs.toArray[j]! = x := by
        rw [getElem!_pos _ _ (by simpa using hj)]
        simp only [List.getElem_toArray]
        obtain ⟨_, he⟩ := List.getElem?_eq_some_iff.1 hx
        exact he
      rw [hget]
      exact ⟨(tw_int h hx).2, frozen_of_row w b _ _ _ hg⟩
    have hp : PredAt Try.prog g lb (Value.int .i64) p w := fun W x hb => (HP W x (Kept.of_below hb)).mono fun e w' h => ⟨h.1, 0, h.2 ▸ rfl⟩
    have hpo : PredOver Try.prog g lb (Value.int .i64) p b off xs.toArray.size w := fun n os dk x _ => (HP _ x (kept_row.mono fun k _ e => by rw [e]; rfl)).mono fun e w' h => ⟨h.1, 0, h.2 ▸ rfl⟩
    simp only [maxLen] at hc2
    have hcon := AnyE.slices_DeleteFunc delLay (Value.int .i64) (fun _ => rfl) p g lb eg 0 Try.zeroValue3 b off c xs.toArray w hp hpo hH (by simp; omega) (by simpa using hc1)
    change Calls Try.prog 72 _ _ _ at hcon
    simp only [List.size_toArray, List.toList_toArray] at hcon
    refine hcon.mono ?_
    rintro e w' ⟨rfl, q, rfl⟩
    obtain ⟨fl, hfl⟩ : ∃ fl, fl = xs.filter fun x => !p x := ⟨_, rfl⟩
    rw [← hfl]
    have hle : fl.length ≤ xs.length := by rw [hfl]; exact List.length_filter_le _ _
    have hH2 := holds_putRow (Value.int .i64) (Sort.ahead w q) b off xs.toArray ((fl ++ List.replicate (xs.length - fl.length) 0).toArray) hH (by simp; omega)
    refine ⟨_, rfl, TW.of_ints (cur := putCells (Value.int .i64) off ((fl ++ List.replicate (xs.length - fl.length) 0).toArray) cur) ?_ rfl (by omega) (by simp only [maxLen]; omega) (by simp [putCells]; omega) (fun j y hy => ?_), rfl, kept_put.mono fun k _ e => by rw [e]; rfl⟩
    · unfold putRow mapBlock
      have hg2 : (Sort.ahead w q).heap[b]? = some (.cells cur 3 (0, 0)) := hg
      simp only [Array.getElem?_modify, if_true, hg2, Option.map_some, onCells]
    · have hj := (List.getElem?_eq_some_iff.1 hy).1
      have hm : y ∈ xs := by
        have := List.mem_of_getElem? hy
        rw [hfl] at this
        exact (List.mem_filter.1 this).1
      obtain ⟨i, hi⟩ := List.mem_iff_getElem?.1 hm
      refine ⟨(tw_int h hi).1, ?_⟩
      have := (hH2 j (by simp; omega)).1
      have hget : (fl ++ List.replicate (xs.length - fl.length) 0).toArray[j]! = y := by
        rw [getElem!_pos _ _ (by simp; omega)]
        simp only [List.getElem_toArray]
        rw [List.getElem_append_left hj]
        obtain ⟨_, he⟩ := List.getElem?_eq_some_iff.1 hy
        exact he
      rw [hget] at this
      exact this

/-- The captured words of helpers: the puller's pointer in cell b4, skip in cell b7. -/
theorem pred_help (b4 b7 px n me : Nat) (vs : Value) (skip : List Int) (F : Nat → Prop) (x : Int) (w : World) (h4 : w.cell? ⟨b4, 0, none⟩ = some (.pointer (some ⟨px, 0, none⟩))) (h7 : w.cell? ⟨b7, 0, none⟩ = some vs) (hs : Sl (kI .i64) w F vs skip)
    (hn : w.cell? ⟨px, 0, none⟩ = some (.int .i64 n)) (hm : w.cell? ⟨px, 1, none⟩ = some (.int .i64 me)) :
    Calls Try.prog 73 #[.int .i64 x, .pointer (some ⟨b4, 0, none⟩), .pointer (some ⟨b7, 0, none⟩)] w fun e w' => e = .returned (.bool (badH n me skip x)) ∧ w = w' := by
  have hc := contains_any vs skip x w F hs
  obtain ⟨A, c, rfl, _⟩ := hs.slice
  obtain ⟨R, hR⟩ : ∃ R, R = badH n me skip x := ⟨_, rfl⟩
  obtain ⟨cv, hcv⟩ : ∃ cv, cv = skip.contains x := ⟨_, rfl⟩
  rw [← hR]
  rw [← hcv] at hc
  have HR : Hid (R = (decide ((n : Int) ≤ x) || decide (x = (me : Int)) || cv)) := by rw [hR, badH, hcv]; exact rfl
  clear hR hcv hs
  by_cases h1 : (n : Int) ≤ x
  · go_enter Try.func73, Try.ntmps73
    go_wp2
    go_ret
    exact ⟨ret_bool (by rw [HR.out]; simp [h1]), rfl⟩
  · by_cases h2 : x = (me : Int)
    · subst h2
      have HN : Hid (¬ (n : Int) ≤ me) := h1
      go_enter Try.func73, Try.ntmps73
      go_wp2
      go_ret
      exact ⟨ret_bool (by rw [HR.out]; simp), rfl⟩
    · have hb : (x == (me : Int)) = false := by rw [beq_eq_false_iff_ne]; exact h2
      have HN : Hid (¬ (n : Int) ≤ x ∧ ¬ x = (me : Int)) := ⟨h1, h2⟩
      go_enter Try.func73, Try.ntmps73
      go_wp2_with (go_at_call 60; ((with_reducible refine hc.mono ?_); rintro e w' ⟨rfl, rfl⟩))
      go_ret
      exact ⟨ret_bool (by rw [HR.out, decide_eq_false (by have := HN.out; omega), decide_eq_false (by have := HN.out; omega)]; simp), rfl⟩

set_option maxRecDepth 20000 in
theorem helpers_any {b rb : Nat} {G F : Nat → Prop} (x : PS) (e : PE) (vs : Value) (px : Nat) (w : World) (hm : MatAt w b rb e.N e.rows G) (hs : Sl (kI .i64) w F vs e.skip) (hF : ∀ k, F k → k < w.heap.size)
    (h0 : w.cell? ⟨px, 0, none⟩ = some (.int .i64 x.n)) (h1 : w.cell? ⟨px, 1, none⟩ = some (.int .i64 x.me)) (f : Nat) (s : Int) (hf : (f : Int) ≤ 255) :
    Calls Try.prog 58 #[.pointer (some ⟨px, 0, none⟩), .agg #[.int .u8 f, .int .u64 s], .pointer (some ⟨b, 0, none⟩), vs] w fun r w' => ∃ v', r = .returned v' ∧ TW (kI .i64) 3 w' No v' (helpersI x e f s) ∧ Fresh w v' ∧ Kept No w w' := by
  obtain ⟨A, c, rfl, hc1, hc2⟩ := hs.slice
  simp only [maxLen] at hc2
  obtain ⟨w3, hw3⟩ : ∃ w3, w3 = ((w.alloc (.cells #[.pointer (some ⟨px, 0, none⟩)] 58)).alloc (.cells #[.int .u8 f, .int .u64 s] 40)).alloc (.cells #[.slice A e.skip.length c] 42) := ⟨_, rfl⟩
  have hk3 : Kept No w w3 := by rw [hw3]; exact (((Kept.refl _ _).alloc _).alloc _).alloc _
  have e7 := heap_alloc_new ((w.alloc (.cells #[.pointer (some ⟨px, 0, none⟩)] 58)).alloc (.cells #[.int .u8 f, .int .u64 s] 40)) (.cells #[.slice A e.skip.length c] 42)
  simp only [World.size_alloc] at e7
  rw [← hw3] at e7
  have e4 : w3.cell? ⟨w.heap.size, 0, none⟩ = some (.pointer (some ⟨px, 0, none⟩)) := by rw [hw3]; exact (((Kept.refl No _).alloc _).alloc _).cell (by simp) id
  have e5 : w3.cell? ⟨w.heap.size + 1 + 1, 0, none⟩ = some (.slice A e.skip.length c) := by rw [cell_of_row _ _ 0 _ _ _ e7]; rfl
  have hH := holders_tw w3 (hm.new hk3) f s hf
  have HW3 : Hid (w3 = ((w.alloc (.cells #[.pointer (some ⟨px, 0, none⟩)] 58)).alloc (.cells #[.int .u8 f, .int .u64 s] 40)).alloc (.cells #[.slice A e.skip.length c] 42)) := hw3
  have eg : ∀ args w, (callFunc 73 args).run Try.prog w = .ok (.enter 73 args) w := enters_of Try.func73 (by kernel_rfl) rfl
  have HC : Hid (w3.cell? ⟨w.heap.size, 0, none⟩ = some (.pointer (some ⟨px, 0, none⟩)) ∧ w3.cell? ⟨w.heap.size + 1 + 1, 0, none⟩ = some (.slice A e.skip.length c) ∧ w3.cell? ⟨px, 0, none⟩ = some (.int .i64 x.n) ∧ w3.cell? ⟨px, 1, none⟩ = some (.int .i64 x.me) ∧ Kept No w w3 ∧ Sl (kI .i64) w3 F (.slice A e.skip.length c) e.skip ∧ (∀ k, F k → k < w3.heap.size)) :=
    ⟨e4, e5, hk3.cell h0 id, hk3.cell h1 id, hk3, hs.new hk3, fun k hk => Nat.lt_of_lt_of_le (hF k hk) hk3.size⟩
  obtain ⟨sl, hsl⟩ : ∃ sl, sl = e.skip.length := ⟨_, rfl⟩
  rw [← hsl] at HW3 HC hc1 ⊢
  clear hw3 hk3 e7 e4 e5 hm hs h0 h1 hF hsl
  go_enter Try.func58, Try.ntmps58
  go_wp2_with (first
    | (go_at_call 26; rw [← HW3.out]; go_must ((with_reducible refine hH.mono ?_); rintro r w4 ⟨v4, rfl, ht4, hf4, hk4⟩; have hD := deleteInts v4 _ w4 ht4 73 #[.pointer (some ⟨w.heap.size, 0, none⟩), .pointer (some ⟨w.heap.size + 1 + 1, 0, none⟩)] (badH x.n x.me e.skip) eg (fun W y hW => by
        have hk : Kept No w3 W := hk4.fresh hW hf4
        exact pred_help w.heap.size (w.heap.size + 1 + 1) px x.n x.me (.slice A sl c) e.skip F y W (hk.cell HC.out.1 id) (hk.cell HC.out.2.1 id) (HC.out.2.2.2.2.2.1.new hk) (hk.cell HC.out.2.2.1 id) (hk.cell HC.out.2.2.2.1 id)); have H4 : Hid (Kept No w3 w4 ∧ Fresh w3 v4) := ⟨hk4, hf4⟩; clear hH ht4 hf4 hk4))
    | (go_at_call 72; go_must ((with_reducible refine hD.mono ?_); rintro r w5 ⟨v5, rfl, ht5, ho5, hk5⟩; clear hD)))
  go_ret
  exact ⟨_, rfl, ht5, fun k hk => Nat.le_trans HC.out.2.2.2.2.1.size (H4.out.2 k (ho5 ▸ hk)), HC.out.2.2.2.2.1.trans (H4.out.1.fresh hk5 H4.out.2)⟩
end Go.Proofs.Ytfnecdkfhackkaa
