/- The package store, first part: keys, what its memory holds, Has. -/
import Derived.Test.YtnmjholnnnclcaaMaps
import Derived.Test.YtnmjholnnnclcaaVec
import Derived.Test.YtnmjholnnnclcaaClone
import Derived.Test.YtnmjholnnnclcaaWhole
import Derived.Test.YtnmjholnnnclcaaMake
set_option linter.unusedVariables false
set_option linter.unusedSimpArgs false
namespace Go.Proofs.Ytnmjholnnnclcaa
open Go.RowKit

def encID (p : Int × Int) : Value := .agg #[.int .u8 p.1, .int .u64 p.2]
def fs30 : List Field := [{ name := "From", type := 5, offset := 0, embedded := false, tag := "", pkgPath := "", byteOffset := 0 }, { name := "Seq", type := 28, offset := 1, embedded := false, tag := "", pkgPath := "", byteOffset := 8 }]
theorem fs30_eq : Try.prog.fieldsOf 30 = fs30.toArray := by kernel_rfl
theorem part5 (w : World) (x y : Value) : (part 5 #[x, y] 0).run Try.prog w = .ok x w := run_part_plain w (by kernel_rfl) rfl
theorem part28 (w : World) (x y : Value) : (part 28 #[x, y] 1).run Try.prog w = .ok y w := run_part_plain w (by kernel_rfl) rfl
theorem eqID (d : Nat) (a b c e : Int) (w : World) : (Op.equalIn (d + 1 + 1) 30 (.agg #[.int .u8 a, .int .u64 b]) (.agg #[.int .u8 c, .int .u64 e])).run Try.prog w = .ok (a == c && b == e) w := by
  rw [run_equalIn_agg w (d + 1) 30 _ _ (by kernel_rfl) (by kernel_rfl), fs30_eq]
  simp [fs30, Op.eqFields, Sem.run_bind, part5, part28, run_equalIn_int w d 5 .u8 .u8 a c Try.underlying5, run_equalIn_int w d 28 .u64 .u64 b e Try.underlying28, Result.andThen]
  by_cases h1 : a = c <;> by_cases h2 : b = e <;> simp [h1, h2]
theorem chkID (d : Nat) (em : Bool) (a b : Int) (w : World) : (Instr.checkKey em (d + 1 + 1) 30 (.agg #[.int .u8 a, .int .u64 b])).run Try.prog w = .ok () w := by
  rw [Instr.checkKey]
  simp only [Sem.run_bind, run_underlying (show Try.prog.underlying 30 = some (.struct fs30.toArray) by kernel_rfl), Result.andThen]
  simp [fs30, Sem.run_bind, part5, part28, Instr.checkKey, run_underlying Try.underlying5, run_underlying Try.underlying28, Result.andThen]
theorem keysID : Keys Try.prog 30 encID := by
  refine ⟨by kernel_rfl, fun x y w => ?_, fun em x w => ?_, fun x => by simp [encID, Instr.sameBits]⟩
  · obtain ⟨a, b⟩ := x
    obtain ⟨c, d⟩ := y
    refine (eqID 9998 a b c d w).trans ?_
    by_cases h1 : a = c <;> by_cases h2 : b = d <;> simp [h1, h2]
  · exact chkID 9998 em x.1 x.2 w

section
variable {P : Program} {F : Nat → Prop} {α : Type} [DecidableEq α] {kt : TypeId} {enc : α → Value}
theorem pl_load_whole' {l : List Oper} {K : Act → World → Prop} {a : Act} {w : World} {i : Nat} {p : Plan} {o : Oper} (ho : l.getD i default = o) (hg : Region.wanted o (yielded l.toArray a.tmps) = true) (x : Operand) (ty : TypeId) (hop : o.op = .load ty x)
    (b off : Nat) (hx : a.eval x = .pointer (some ⟨b, off, none⟩)) (cs : List Value) (hA : Agg P ty cs.length) (hc : ∀ i u, cs[i]? = some u → w.cell? ⟨b, off + i, none⟩ = some u) (hF : ¬ F b)
    (h : wpPl P F l K p (a.put o.dst (.agg cs.toArray)) w) : wpPl P F l K (.rd i p) a w := by
  refine pl_rd ho _ hg (fun W hW => ?_) h
  simp only [execOp, hop, Instr.loadAt, hx]
  simp [Instr.sureAddr, run_load_whole hA (fun i u hu => hW.cell (hc i u hu) hF)]
theorem pl_lookup {l : List Oper} {K : Act → World → Prop} {a : Act} {w : World} {i : Nat} {p : Plan} {o : Oper} (ho : l.getD i default = o) (hg : Region.wanted o (yielded l.toArray a.tmps) = true) (x y : Operand) (mt et : TypeId) (z : Value) (hop : o.op = .lookup mt x y true)
    (hk : Keys P kt enc) (hm : P.underlying mt = some (.map kt et)) (hz : (P.info? et).bind (·.zero) = some z) (b : Nat) (hx : a.eval x = .map (some b)) (q : α) (hy : a.eval y = enc q) (lst : List (α × Value)) (h : MapIs enc w b lst) (hF : ¬ F b)
    (hK : wpPl P F l K p (a.put o.dst (.tuple #[(getL lst q).getD z, .bool (getL lst q).isSome])) w) : wpPl P F l K (.rd i p) a w := by
  refine pl_rd ho _ hg (fun W hW => ?_) hK
  simp only [execOp, hop, hx, hy]
  simp [run_lookup_is hk hm hz (h.kept hW hF) q]
theorem pl_update {l : List Oper} {K : Act → World → Prop} {a : Act} {w : World} {i : Nat} {p : Plan} {o : Oper} (ho : l.getD i default = o) (hgd : o.guard = none) (m x v : Operand) (mt et : TypeId) (hop : o.op = .mapUpdate mt m x v)
    (hk : Keys P kt enc) (hm : P.underlying mt = some (.map kt et)) (b : Nat) (hmv : a.eval m = .map (some b)) (q : α) (hx : a.eval x = enc q) (lst : List (α × Value)) (h : MapIs enc w b lst)
    (hK : ∀ w', MapIs enc w' b (putL q (a.eval v) lst) → Kept (fun k => k = b) w w' → wpPl P F l K p (a.put o.dst undef) w') : wpPl P F l K (.act i p) a w := by
  refine pl_act ho ?_
  obtain ⟨w', h1, h2, h3⟩ := run_update_is hk hm h q (a.eval v)
  refine wpList_plain hgd fun Q hQ => ?_
  have hrun : (execOp a.eval o).run P w = .ok .skip w' := by
    simp only [execOp, hop, hmv, hx]
    simp [h1]
  simp only [Oper.wp, hrun, Oper.upon]
  exact hQ _ _ (APost.mk (hK w' h2 h3))
end

theorem agg30 {a b : Value} : Agg Try.prog 30 [a, b].length := Agg.mk' Try.underlying30 rfl (by kernel_rfl)
theorem two_cells' {w : World} {b : Nat} {x y : Value} (h0 : w.cell? ⟨b, 0, none⟩ = some x) (h1 : w.cell? ⟨b, 1, none⟩ = some y) : ∀ i u, [x, y][i]? = some u → w.cell? ⟨b, 0 + i, none⟩ = some u := by
  intro i u hu
  match i with
  | 0 => have e : x = u := by simpa using hu
         subst e; exact h0
  | 1 => have e : y = u := by simpa using hu
         subst e; exact h1
  | i + 2 => simp at hu

set_option maxRecDepth 20000 in
set_option maxHeartbeats 1000000 in
theorem has_any (sb mb bq : Nat) (l : List ((Int × Int) × Value)) (q : Int × Int) (w : World) (hc : w.cell? ⟨sb, 2, none⟩ = some (.map (some mb))) (hM : MapIs encID w mb l) (h0 : w.cell? ⟨bq, 0, none⟩ = some (.int .u8 q.1)) (h1 : w.cell? ⟨bq, 1, none⟩ = some (.int .u64 q.2)) :
    Calls Try.prog 14 #[.pointer (some ⟨sb, 0, none⟩), .slice (some ⟨bq, 0, none⟩) 1 1] w fun e w' => e = .returned (.bool (getL l q).isSome) ∧ Kept No w w' := by
  obtain ⟨q0, q1⟩ := q
  simp only at h0 h1
  have HC : Hid (w.cell? ⟨sb, 2, none⟩ = some (.map (some mb)) ∧ MapIs encID w mb l ∧ w.cell? ⟨bq, 0, none⟩ = some (.int .u8 q0) ∧ w.cell? ⟨bq, 1, none⟩ = some (.int .u64 q1)) := ⟨hc, hM, h0, h1⟩
  obtain ⟨B, hB⟩ : ∃ B, B = (getL l (q0, q1)).isSome := ⟨_, rfl⟩
  have HB : Hid (B = (getL l (q0, q1)).isSome) := hB
  rw [← hB]
  clear hc hM h0 h1 hB
  go_enter Try.func14, Try.ntmps14
  go_wp2
  go_loopw [11] (fun i wr => ∃ k : Nat, k ≤ 1 ∧ i = .int .i64 k ∧ Kept No w wr ∧ (k = 1 → B = true)) (fun i _ => 1 - (intOf i).toNat)
  case atStart => exact ⟨0, Nat.zero_le _, rfl, Kept.refl _ _, fun h => by cases h⟩
  case round =>
    obtain ⟨k, hk, rfl, hke, hb1⟩ := hrel
    by_cases hlt : k < 1
    · have : k = 0 := by omega
      subst this
      have c0 := hke.cell HC.out.2.2.1 id
      have c1 := hke.cell HC.out.2.2.2 id
      have hka : Kept No w (wr.alloc (.cells #[.int .u8 q0, .int .u64 q1] 30)).drew := (hke.alloc _).drew
      have m2 : (wr.alloc (.cells #[.int .u8 q0, .int .u64 q1] 30)).drew.cell? ⟨sb, 2, none⟩ = some (.map (some mb)) := hka.cell HC.out.1 id
      have t0 : (wr.alloc (.cells #[.int .u8 q0, .int .u64 q1] 30)).drew.cell? ⟨wr.heap.size, 0, none⟩ = some (.int .u8 q0) := by rw [World.cell?_drew]; simp
      have t1 : (wr.alloc (.cells #[.int .u8 q0, .int .u64 q1] 30)).drew.cell? ⟨wr.heap.size, 1, none⟩ = some (.int .u64 q1) := by rw [World.cell?_drew]; simp
      have HT : Hid (Kept No w (wr.alloc (.cells #[.int .u8 q0, .int .u64 q1] 30)).drew ∧ MapIs encID (wr.alloc (.cells #[.int .u8 q0, .int .u64 q1] 30)).drew mb l) := ⟨hka, HC.out.2.1.new hka⟩
      clear hke hka hb1
      go_wp2
      refine wp_region_plan No (.pur 0 (.pur 1 (.pur 2 (.rd 3 (.rd 4 (.rd 5 (.pur 6 (.pur 7 (.pur 8 (.pur 9 (.pur 10 .fin))))))))))) [] mixed (by kernel_rfl) ?_
      repeat ((first | refine pl_pur (by simp only [List.getD_cons_succ, List.getD_cons_zero]; rfl) _ (by rfl) (fun W => by go_simp; with_reducible rfl) ?_ | refine pl_rd (by simp only [List.getD_cons_succ, List.getD_cons_zero]; rfl) _ (by rfl) (fun W hW => by have hc := hW.cell (m2) id; clear hW; go_simp; with_reducible rfl) ?_); simp only [Act.put, List.setIfInBounds_toArray, List.set_cons_zero, List.set_cons_succ])
      refine pl_load_whole' (by simp only [List.getD_cons_succ, List.getD_cons_zero]; rfl) (by rfl) (.tmp 6) 30 (by rfl) wr.heap.size 0 (by rfl) _ agg30 (two_cells' t0 t1) (fun h => h) ?_
      simp only [Act.put, List.setIfInBounds_toArray, List.set_cons_zero, List.set_cons_succ]
      refine pl_lookup (by simp only [List.getD_cons_succ, List.getD_cons_zero]; rfl) (by rfl) (.tmp 21) (.tmp 22) 50 31 (.slice none 0 0) (by rfl) keysID Try.underlying50 (by kernel_rfl) mb (by rfl) (q0, q1) (by rfl) l HT.out.2 (fun h => h) ?_
      rw [← HB.out]
      simp only [Act.put, List.setIfInBounds_toArray, List.set_cons_zero, List.set_cons_succ]
      repeat ((first | refine pl_pur (by simp only [List.getD_cons_succ, List.getD_cons_zero]; rfl) _ (by rfl) (fun W => by go_simp; with_reducible rfl) ?_ | refine pl_rd (by simp only [List.getD_cons_succ, List.getD_cons_zero]; rfl) _ (by rfl) (fun W hW => by have hc := kcell hW; clear hW; go_simp; with_reducible rfl) ?_); simp only [Act.put, List.setIfInBounds_toArray, List.set_cons_zero, List.set_cons_succ])
      refine pl_fin ?_
      cases B
      · go_wp2
        go_ret
        exact ⟨rfl, HT.out.1⟩
      · go_wp2
        go_roundw
        case rel => exact ⟨1, by omega, by go_num, HT.out.1, by simp⟩
        case measure => simp [intOf]
    · have : k = 1 := by omega
      subst this
      have hB := hb1 rfl
      subst hB
      go_wp2
      go_ret
      exact ⟨rfl, hke⟩
end Go.Proofs.Ytnmjholnnnclcaa
