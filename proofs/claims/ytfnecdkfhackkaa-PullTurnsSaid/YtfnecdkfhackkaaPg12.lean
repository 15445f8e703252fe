/- The package pull, general: New, Asked, Wanted; the law's own small functions. -/
import Derived.Test.YtfnecdkfhackkaaPg11
import Derived.Test.YtfnecdkfhackkaaMRises
set_option linter.unusedVariables false
set_option linter.unusedSimpArgs false
namespace Go.Proofs.Ytfnecdkfhackkaa
open Go.RowKit
theorem res_cell_tmpg {P : Program} {fn : Func} {p u : Tmp} {ty : TypeId} (h : fn.results = #[.cell p ty, .tmp u]) (tmps : Array Value) (w : World) (b off : Nat) (hp : tmps.getD p undef = .pointer (some ⟨b, off, none⟩)) (cs : List Value) (hA : Agg P ty cs.length)
    (hc : ∀ i u, cs[i]? = some u → w.cell? ⟨b, off + i, none⟩ = some u) : (results fn tmps).run P w = .ok (.tuple #[.agg cs.toArray, tmps.getD u undef]) w := by
  simp only [results, h]
  have hp' : tmps[p]?.getD undef = .pointer (some ⟨b, off, none⟩) := by rw [← hp]; simp
  simp [Sem.run_bind, hp', asAddr, run_load_whole hA hc]
def capN (n : Int) : Nat := (max 1 (min n 64)).toNat
def meN (n me : Int) : Nat := (max 0 (min me ((capN n : Int) - 1))).toNat
def newP (n me again : Int) : PS := ⟨capN n, meN n me, max 1 (min again 1099511627776), none, capN n - 1, meN n me, 0⟩
theorem capN_in (n : Int) : 1 ≤ capN n ∧ capN n ≤ 64 := by unfold capN; omega
theorem meN_lt (n me : Int) : meN n me < capN n := by have := capN_in n; unfold meN; omega
theorem newP_ok (n me again : Int) : (newP n me again).ok :=
  ⟨(capN_in n).1, (capN_in n).2, meN_lt n me, by simp only [newP]; omega, by simp only [newP]; omega, by have := capN_in n; simp only [newP]; omega, meN_lt n me, fun _ _ _ _ h => by cases h⟩
set_option maxRecDepth 20000 in
set_option maxHeartbeats 2000000 in
theorem pnew_any (n me again : Int) (w : World) : Calls Try.prog 38 #[.int .i64 n, .int .i64 me, .int .i64 again] w fun e w' => e = .returned (.pointer (some ⟨w.heap.size, 0, none⟩)) ∧ PxIs w' w.heap.size (newP n me again) (.pointer none) ∧ Kept No w w' := by
  obtain ⟨N, hN⟩ : ∃ N, N = capN n := ⟨_, rfl⟩
  obtain ⟨M, hM⟩ : ∃ M, M = meN n me := ⟨_, rfl⟩
  have h1 : max 1 (min n 64) = (N : Int) := by rw [hN]; unfold capN; omega
  have hN1 := capN_in n
  rw [← hN] at hN1
  have h2 : max 0 (min me ((N : Int) - 1)) = (M : Int) := by rw [hM]; unfold meN; rw [← hN]; omega
  have h3 : IntKind.i64.wrap ((N : Int) - 1) = (N : Int) - 1 := by rw [IntKind.wrap_i64]; omega
  have h4 : (N : Int) - 1 = ((N - 1 : Nat) : Int) := by omega
  have HP : Hid (newP n me again = ⟨N, M, max 1 (min again 1099511627776), none, N - 1, M, 0⟩) := by show newP n me again = _; rw [newP, hN, hM]
  have H4 : Hid ((N : Int) - 1 = ((N - 1 : Nat) : Int)) := h4
  clear hN hM hN1 h4
  go_enter Try.func38, Try.ntmps38
  go_wp2
  go_ret
  rw [HP.out, H4.out]
  exact ⟨rfl, heap_alloc_new _ _, (Kept.refl _ _).alloc _⟩
theorem asked_any {w : World} {px : Nat} {x : PS} {pv : Value} (h : PxIs w px x pv) : Calls Try.prog 40 #[.pointer (some ⟨px, 0, none⟩)] w fun e w' => e = .returned (.int .u64 x.count) ∧ w = w' := by
  have h6 := h.cell.2.2.2.2.2.2
  clear h
  go_enter Try.func40, Try.ntmps40
  go_wp2
  go_ret
  exact ⟨rfl, rfl⟩
def wantedI (x : PS) : Int × Int × Bool := match x.want with
  | none => (0, 0, false)
  | some (f, s, _, _) => (f, s, true)
set_option maxRecDepth 20000 in
set_option maxHeartbeats 2000000 in
theorem wanted_any {w : World} {px : Nat} {O : Nat → Prop} {x : PS} (h : PullAt w px O x) (hO : ∀ k, O k → k < w.heap.size) : Calls Try.prog 42 #[.pointer (some ⟨px, 0, none⟩)] w fun e w' => e = .returned (.tuple #[.agg #[.int .u8 (wantedI x).1, .int .u64 (wantedI x).2.1], .bool (wantedI x).2.2]) ∧ Kept No w w' := by
  obtain ⟨pv, h1, h2, h3⟩ := h
  have hl := hO _ h2
  have p3 := h1.cell.2.2.2.1
  unfold wantedI
  cases hw : x.want with
  | none =>
    rw [hw] at h3
    subst h3
    clear h1 h2 hO hw
    go_enter Try.func42, Try.ntmps42
    go_wp2
    refine bodyPost_ret (res_cell_tmpg (by rfl) _ _ w.heap.size 0 (by rfl) [.int .u8 0, .int .u64 0] agg40g (cells2 (by simp) (by simp))) rfl ?_
    exact ⟨rfl, (Kept.refl _ _).alloc _⟩
  | some z =>
    obtain ⟨f, s, a, t⟩ := z
    rw [hw] at h3
    obtain ⟨wb, rfl, hne, hwb, hB⟩ := h3
    have hbl := hO _ hwb
    have b0 := hB.cell.1
    have b1 := hB.cell.2.1
    clear h1 h2 hO hw hB
    go_enter Try.func42, Try.ntmps42
    go_wp2
    refine bodyPost_ret (res_cell_tmpg (by rfl) _ _ w.heap.size 0 (by rfl) [.int .u8 f, .int .u64 s] agg40g (cells2 (by simp) (by simp))) rfl ?_
    exact ⟨rfl, (Kept.refl _ _).alloc _⟩
theorem great20_op (k p t : Int) (A B : Option Addr) (n c m d : Nat) (W : World) :
    Calls Try.prog 41 #[.agg #[.int .i64 k, .int .i64 p, .int .i64 t, .slice A n c, .slice B m d]] W fun e w' => e = .returned (.bool (decide (100 < n) || decide (100 < m))) ∧ Kept No W w' := by
  by_cases hn : 100 < n
  · have h1 : (100 : Int) < n := by omega
    go_enter Try.func41, Try.ntmps41
    go_wp2
    go_ret
    exact ⟨by simp [hn], (Kept.refl _ _).alloc _⟩
  · have h1 : ¬ (100 : Int) < n := by omega
    by_cases hm : 100 < m
    · have h2 : (100 : Int) < m := by omega
      go_enter Try.func41, Try.ntmps41
      go_wp2
      go_ret
      exact ⟨by simp [hn, hm], (Kept.refl _ _).alloc _⟩
    · have h2 : ¬ (100 : Int) < m := by omega
      go_enter Try.func41, Try.ntmps41
      go_wp2
      go_ret
      exact ⟨by simp [hn, hm], (Kept.refl _ _).alloc _⟩
theorem great20_yes {k p t : Int} {A B : Option Addr} {n c m d : Nat} (W : World) (h : 100 < n ∨ 100 < m) :
    Calls Try.prog 41 #[.agg #[.int .i64 k, .int .i64 p, .int .i64 t, .slice A n c, .slice B m d]] W fun e w' => e = .returned (.bool true) ∧ Kept No W w' :=
  (great20_op k p t A B n c m d W).mono fun e w' h2 => ⟨by rw [h2.1, show (decide (100 < n) || decide (100 < m)) = true by simpa using h], h2.2⟩
theorem great20_no {k p t : Int} {A B : Option Addr} {n c m d : Nat} (W : World) (h : ¬ (100 < n ∨ 100 < m)) :
    Calls Try.prog 41 #[.agg #[.int .i64 k, .int .i64 p, .int .i64 t, .slice A n c, .slice B m d]] W fun e w' => e = .returned (.bool false) ∧ Kept No W w' :=
  (great20_op k p t A B n c m d W).mono fun e w' h2 => ⟨by rw [h2.1, show (decide (100 < n) || decide (100 < m)) = false by simp only [not_or] at h; simp [h.1, h.2]], h2.2⟩
def eB : PE := ⟨[1], 2, tell (List.replicate 2 (zrow 2)) 1 0 [] [3], []⟩
theorem nextB : (nextI (newP 2 0 2) eB 0).2 = ((0, 2), 1, true) := by decide
set_option maxRecDepth 20000 in
set_option maxHeartbeats 2000000 in
theorem awake20g (w : World) : Calls Try.prog 37 #[] w fun e w' => e = .returned (.bool true) ∧ Kept No w w' := by
  have hN := new_any 2 w
  rw [show (max 1 (min (2 : Int) 64)).toNat = 2 by decide] at hN
  go_enter Try.func37, Try.ntmps37
  go_wp2_with (first
    | (go_at_call 13; ((with_reducible refine hN.mono ?_); rintro e w1 ⟨b, rb, G, rfl, hm, hk, hrb, hb, hG⟩; have HM : Hid (MatAt w1 b rb 2 (List.replicate 2 (zrow 2)) G) := hm; have hc3 : (w1.alloc (.cells #[.int .u64 3] 26)).cell? ⟨w1.heap.size, 0, none⟩ = some (.int .u64 3) := (by simp); have hrl := hm.lt.2; have T1 := tell_any (F := fun k => k = w1.heap.size) _ (hm.new ((Kept.refl No w1).alloc (.cells #[.int .u64 3] 26))) 1 0 (by simp [inr_u64]) (.slice none 0 0) (.slice (some ⟨w1.heap.size, 0, none⟩) 1 1) [] [3] (Sl.nil _ _ _) (sl_one hc3 (by simp [inr_u64]) rfl) (by omega) (by simp) (by simp); have H1 : Hid (Kept No w w1 ∧ w.heap.size ≤ rb) := ⟨hk, hrb⟩; clear hm hk hrb hb hG hc3))
    | (go_at_call 16; go_loud ((with_reducible refine T1.mono ?_); rintro e w2 ⟨rfl, hm2, hk2⟩; have H2 : Hid (MatAt w2 b rb 2 eB.rows _ ∧ Kept No w w2) := ⟨hm2, (H1.out.1.alloc _).trans2 hk2 (by have := H1.out.2; intro i hi e; omega)⟩; clear T1 hm2 hk2))
    | (go_at_call 38; go_loud ((with_reducible refine (pnew_any 2 0 2 w2).mono ?_); rintro e w3 ⟨rfl, hP, hk3⟩; have hl3 := lt_of_heap hP; have H3 : Hid (PxIs (w3.alloc (.cells #[.int .u64 1] 26)) w2.heap.size (newP 2 0 2) (.pointer none) ∧ Kept No w2 (w3.alloc (.cells #[.int .u64 1] 26))) := ⟨(Below.heap_alloc _ _ _ hl3).trans hP, hk3.alloc _⟩; clear hP hk3; have hc1 : (w3.alloc (.cells #[.int .u64 1] 26)).cell? ⟨w3.heap.size, 0, none⟩ = some (.int .u64 1) := (by simp); have T4 := next_any (w := w3.alloc (.cells #[.int .u64 1] 26)) (e := eB) (vh := .slice (some ⟨w3.heap.size, 0, none⟩) 1 1) (vs := .slice none 0 0) (F := fun k => k = w3.heap.size) (O := fun k => k = w2.heap.size) (newP 2 0 2) (newP_ok 2 0 2) w2.heap.size ⟨H2.out.1.new H3.out.2, sl_one hc1 (by simp [inr_u64]) rfl, Sl.nil _ _ _, (fun k hk => by subst hk; simp)⟩ ⟨_, H3.out.1, rfl, rfl⟩ (by rintro k rfl; have := H2.out.1.lt; exact ⟨by omega, by omega, fun h => absurd (H2.out.1.glt _ h) (Nat.lt_irrefl _), by omega⟩) (by rintro k rfl; simp; omega) 0; rw [nextB] at T4; clear hc1))
    | (go_at_call 39; go_loud ((with_reducible refine T4.mono ?_); rintro e w5 ⟨rfl, _, hk5⟩; have H5 : Hid (Kept No w w5) := (H2.out.2.trans H3.out.2).trans2 hk5 (by have := H2.out.2.size; intro i hi e; have e : i = w2.heap.size := e; omega); clear T4 hk5)))
  go_ret
  exact ⟨rfl, H5.out.alloc _⟩
end Go.Proofs.Ytfnecdkfhackkaa
