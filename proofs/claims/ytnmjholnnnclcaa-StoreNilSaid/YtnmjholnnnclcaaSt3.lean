/- The package store, third part: rise. -/
import Derived.Test.YtnmjholnnnclcaaSt2
set_option linter.unusedVariables false
set_option linter.unusedSimpArgs false
namespace Go.Proofs.Ytnmjholnnnclcaa
open Go.RowKit

abbrev PL := List ((Int × Int) × Value)
def hasL (l : PL) (q : Int × Int) : Bool := (getL l q).isSome
theorem findL_isSome {q : Int × Int} : ∀ {l : PL} {i : Nat}, (findL q l i).isSome = true ↔ ∃ p ∈ l, p.1 = q
  | [], _ => by simp [findL]
  | (y, v) :: l, i => by
    simp only [findL]
    by_cases e : q = y
    · simp [e]
    · rw [if_neg e, findL_isSome (l := l)]
      simp [Ne.symm e]
theorem hasL_iff {l : PL} {q : Int × Int} : hasL l q = true ↔ ∃ p ∈ l, p.1 = q := by
  simp only [hasL, getL, Option.isSome_map]
  exact findL_isSome
def riseN (l : PL) (i : Int) : Nat → Int → Int
  | 0, x => x
  | k + 1, x => if hasL l (i, x + 1) then riseN l i k (x + 1) else x
def riseTo (l : PL) (i x : Int) : Int := riseN l i (l.length + 1) x
def above (l : PL) (i x : Int) : Nat := l.countP fun p => decide (p.1.1 = i) && decide (x < p.1.2)
theorem above_le (l : PL) (i x : Int) : above l i x ≤ l.length := List.countP_le_length
theorem countP_lt {α : Type} {p q : α → Bool} (hpq : ∀ x, p x = true → q x = true) : ∀ {l : List α}, (∃ x ∈ l, q x = true ∧ p x = false) → l.countP p < l.countP q
  | [], h => by simp at h
  | a :: l, ⟨x, hx, h1, h2⟩ => by
    have hle : l.countP p ≤ l.countP q := List.countP_mono_left fun x _ h => hpq x h
    rcases List.mem_cons.1 hx with rfl | hx
    · rw [List.countP_cons_of_pos h1, List.countP_cons_of_neg (by rw [h2]; decide)]
      omega
    · have ih := countP_lt (p := p) (q := q) hpq ⟨x, hx, h1, h2⟩
      rw [List.countP_cons, List.countP_cons]
      by_cases hp : p a = true
      · rw [if_pos hp, if_pos (hpq a hp)]; omega
      · rw [if_neg hp]
        omega
theorem above_lt {l : PL} {i x : Int} (h : hasL l (i, x + 1) = true) : above l i (x + 1) < above l i x := by
  obtain ⟨p, hp, e⟩ := hasL_iff.1 h
  refine countP_lt (fun p h => ?_) ⟨p, hp, ?_, ?_⟩
  · simp only [Bool.and_eq_true, decide_eq_true_eq] at h ⊢
    exact ⟨h.1, by omega⟩
  · simp [e]; omega
  · simp [e]
theorem riseN_more {l : PL} {i : Int} : ∀ {k : Nat} {x : Int}, above l i x ≤ k → riseN l i k x = riseN l i (k + 1) x
  | 0, x, h => by
    simp only [riseN]
    by_cases hh : hasL l (i, x + 1) = true
    · have := above_lt hh; omega
    · rw [if_neg hh]
  | k + 1, x, h => by
    rw [riseN, riseN]
    by_cases hh : hasL l (i, x + 1) = true
    · rw [if_pos hh, if_pos hh]
      have := above_lt hh
      exact riseN_more (by omega)
    · rw [if_neg hh, if_neg hh]
theorem riseTo_step {l : PL} {i x : Int} (h : hasL l (i, x + 1) = true) : riseTo l i (x + 1) = riseTo l i x := by
  have h1 := above_le l i (x + 1)
  show riseN l i (l.length + 1) (x + 1) = riseN l i (l.length + 1) x
  rw [← riseN_more h1]
  conv => rhs; rw [riseN, if_pos h]
theorem riseTo_end {l : PL} {i x : Int} (h : hasL l (i, x + 1) = false) : riseTo l i x = x := by
  show riseN l i (l.length + 1) x = x
  rw [riseN, h]
  simp
/-- Which ids are held. -/
def IdsOk (n : Nat) (l : PL) : Prop := ∀ p ∈ l, 0 ≤ p.1.1 ∧ p.1.1 < n ∧ 1 ≤ p.1.2 ∧ p.1.2 ≤ 4611686018427387904
theorem IdsOk.has {n : Nat} {l : PL} (h : IdsOk n l) {i x : Int} (hh : hasL l (i, x) = true) : 1 ≤ x ∧ x ≤ 4611686018427387904 := by
  obtain ⟨p, hp, e⟩ := hasL_iff.1 hh
  have h1 := h p hp
  rw [e] at h1
  exact ⟨h1.2.2.1, h1.2.2.2⟩
def u64at (o : Option Value) : Int := match o with | some (.int .u64 x) => x | _ => 0

set_option maxRecDepth 20000 in
set_option maxHeartbeats 2000000 in
theorem rise_st {w : World} {sb mb fb hb n : Nat} {room used : Int} {l : PL} {fl hd : List Int} (H : StoreAt w sb mb fb hb n room used l fl hd) (hl : IdsOk n l) (i : Nat) (hi : i < n) (x y : Int) (hx : hd[i]? = some x) (hy : fl[i]? = some y)
    (bx : 0 ≤ x ∧ x ≤ 4611686018427387904) (by' : 0 ≤ y ∧ y ≤ 4611686018427387904) :
    Calls Try.prog 26 #[.pointer (some ⟨sb, 0, none⟩), .int .i64 i] w fun e w' => e = .returned (.tuple #[]) ∧ StoreAt w' sb mb fb hb n room used l fl (hd.set i (riseTo l i (max x y))) ∧ Kept (fun k => k = hb) w w' := by
  have hk0 : Kept No w w.drew := (Kept.refl _ _).drew
  have H0 := H.new hk0
  have c3 := H0.c3
  have c4 := H0.c4
  have dx := H0.h.cell hx
  have dy := H0.f.cell hy
  have fr := H0.h.fro i
  have n2 := H.n2
  have hw8 : IntKind.u8.wrap (i : Int) = i := by rw [IntKind.wrap_u8]; omega
  obtain ⟨M, hM⟩ : ∃ M, M = max x y := ⟨_, rfl⟩
  have hMb : 0 ≤ M ∧ M ≤ 4611686018427387904 := by omega
  have hmm : (if x < y then y else x) = M := by rw [hM]; split <;> omega
  have hii : (i : Int) < (n : Int) := by omega
  have hih : i < hd.length := by rw [H.hn]; exact hi
  rw [← hM]
  have HH : Hid (StoreAt w.drew sb mb fb hb n room used l fl hd ∧ IdsOk n l ∧ M = max x y ∧ (0 ≤ M ∧ M ≤ 4611686018427387904) ∧ Kept No w w.drew) := ⟨H0, hl, hM, hMb, hk0⟩
  clear H H0 hl hx hy bx by' hk0 hM hMb
  obtain ⟨T, hT⟩ : ∃ T, T = riseTo l i M := ⟨_, rfl⟩
  rw [← hT]
  have HT : Hid (T = riseTo l i M) := hT
  clear hT
  go_enter Try.func26, Try.ntmps26
  go_wp2
  refine wp_region_plan No (.pur 0 (.pur 1 (.pur 2 (.pur 4 (.pur 5 (.pur 6 (.pur 7 (.pur 9 (.pur 12 (.pur 13 (.pur 14 (.pur 16 (.rd 3 (.rd 8 (.pur 10 (.rd 11 (.rd 15 (.pur 17 (.rd 18 (.pur 19 (.pur 20 (.act 21 .fin)))))))))))))))))))))) [21] mixed (by kernel_rfl) ?_
  repeat ((first | refine pl_pur (by simp only [List.getD_cons_succ, List.getD_cons_zero]; rfl) _ (by rfl) (fun W => by go_simp; with_reducible rfl) ?_ | refine pl_rd (by simp only [List.getD_cons_succ, List.getD_cons_zero]; rfl) _ (by rfl) (fun W hW => by have hc := hW.cell (c3) id; clear hW; go_simp; with_reducible rfl) ?_ | refine pl_rd (by simp only [List.getD_cons_succ, List.getD_cons_zero]; rfl) _ (by rfl) (fun W hW => by have hc := hW.cell (c4) id; clear hW; go_simp; with_reducible rfl) ?_ | refine pl_rd (by simp only [List.getD_cons_succ, List.getD_cons_zero]; rfl) _ (by rfl) (fun W hW => by have hc := hW.cell (dx) id; clear hW; go_simp; with_reducible rfl) ?_ | refine pl_rd (by simp only [List.getD_cons_succ, List.getD_cons_zero]; rfl) _ (by rfl) (fun W hW => by have hc := hW.cell (dy) id; clear hW; go_simp; with_reducible rfl) ?_); simp only [Act.put, List.setIfInBounds_toArray, List.set_cons_zero, List.set_cons_succ])
  refine pl_act (by simp only [List.getD_cons_succ, List.getD_cons_zero]; rfl) ?_
  go_wp2
  refine APost.mk (pl_fin ?_)
  obtain ⟨w1, hw1⟩ : ∃ w1, w1 = (w.setCell ⟨hb, i, none⟩ (.int .u64 M)).drew := ⟨_, rfl⟩
  have H1 : Hid (StoreAt w1 sb mb fb hb n room used l fl (hd.set i M) ∧ Kept (fun k => k = hb) w w1) := by
    rw [hw1]
    exact ⟨HH.out.1.held i M, (show Kept (fun k => k = hb) w w.drew from HH.out.2.2.2.2.no).setCell (p := ⟨hb, i, none⟩) (fun _ => rfl) _⟩
  rw [← hw1]
  clear hw1 c3 c4 dx dy hmm fr
  go_wp2
  go_loopw [] (fun wr => ∃ z : Int, StoreAt wr sb mb fb hb n room used l fl (hd.set i z) ∧ riseTo l i z = T ∧ 0 ≤ z ∧ z ≤ 4611686018427387904 ∧ Kept (fun k => k = hb) w wr) (fun wr => above l i (u64at (wr.cell? ⟨hb, i, none⟩)))
  case atStart => exact ⟨M, H1.out.1, HT.out.symm, HH.out.2.2.2.1.1, HH.out.2.2.2.1.2, H1.out.2⟩
  case round =>
    obtain ⟨z, hS, hz, z0, z1, hke⟩ := hrel
    have c4 := hS.c4
    have dz := hS.h.cell (i := i) (x := z) (by simp [hih])
    have hwz : IntKind.u64.wrap (z + 1) = z + 1 := by rw [IntKind.wrap_u64]; omega
    have hsb : sb < wr.heap.size := hS.lt
    have ka : Kept No wr (wr.alloc (.cells #[.int .u8 i, .int .u64 (z + 1)] 30)) := (Kept.refl _ _).alloc _
    have HA := has_any sb mb wr.heap.size l ((i : Int), z + 1) (wr.alloc (.cells #[.int .u8 i, .int .u64 (z + 1)] 30)) (hS.new ka).c2 (hS.new ka).m (by simp) (by simp)
    obtain ⟨B, hB⟩ : ∃ B, B = (getL l ((i : Int), z + 1)).isSome := ⟨_, rfl⟩
    rw [← hB] at HA
    have HZ : Hid (StoreAt wr sb mb fb hb n room used l fl (hd.set i z) ∧ riseTo l i z = T ∧ 0 ≤ z ∧ z ≤ 4611686018427387904 ∧ Kept (fun k => k = hb) w wr ∧ B = hasL l ((i : Int), z + 1)) := ⟨hS, hz, z0, z1, hke, hB⟩
    clear hS hz z0 z1 hke hB ka
    cases B with
    | false =>
      go_wp2_with (go_at_call 14; ((with_reducible refine HA.mono ?_); rintro e w2 ⟨rfl, hk2⟩))
      go_end0
      obtain ⟨h1, h2, h3, h4, h5, h6⟩ := HZ.out
      rw [riseTo_end h6.symm] at h2
      subst h2
      have hk3 := ((Kept.refl No wr).alloc (.cells #[.int .u8 i, .int .u64 (z + 1)] 30)).trans hk2
      exact ⟨rfl, h1.new hk3, h5.trans hk3.no⟩
    | true =>
      go_wp2_with (go_at_call 14; ((with_reducible refine HA.mono ?_); rintro e w2 ⟨rfl, hk2⟩; have hk3 := ((Kept.refl No wr).alloc (.cells #[.int .u8 i, .int .u64 (z + 1)] 30)).trans hk2; have S2 := HZ.out.1.new hk3; have c42 := S2.c4; have dz2 := S2.h.cell (i := i) (x := z) (by simp [hih]); have fr2 := S2.h.fro i; have HS2 : Hid (StoreAt w2 sb mb fb hb n room used l fl (hd.set i z) ∧ Kept No wr w2) := ⟨S2, hk3⟩; clear S2 hk3 hk2 HA c4 dz))
      go_roundw
      case rel =>
        obtain ⟨h1, h2, h3, h4, h5, h6⟩ := HZ.out
        have hb' := HH.out.2.1.has h6.symm
        refine ⟨z + 1, ?_, ?_, by omega, by omega, ?_⟩
        · have := HS2.out.1.held i (z + 1)
          rw [List.set_set] at this
          exact this
        · rw [riseTo_step h6.symm]; exact h2
        · exact (h5.trans HS2.out.2.no).setCell (p := ⟨hb, i, none⟩) (fun _ => rfl) _
      case measure =>
        obtain ⟨h1, h2, h3, h4, h5, h6⟩ := HZ.out
        have e1 := (HS2.out.1.held i (z + 1)).h.cell (i := i) (x := z + 1) (by simp [hih])
        have e2 := h1.h.cell (i := i) (x := z) (by simp [hih])
        rw [e1, e2]
        exact above_lt h6.symm
end Go.Proofs.Ytnmjholnnnclcaa
