/- The package vec, function by function: what each call answers. -/
import Derived.Test.YtfnecdkfhackkaaKinds
import Derived.Test.YtfnecdkfhackkaaProg
set_option linter.unusedVariables false
set_option linter.unusedSimpArgs false
namespace Go.Proofs.Ytfnecdkfhackkaa
open Go.RowKit

theorem mixed : Try.prog.follows .mixedOrders = true := by kernel_rfl
theorem ret_int {k : IntKind} {a b : Int} (h : a = b) : Ending.returned (.int k a) = .returned (.int k b) := by rw [h]

/-- The number of a process. -/
def vat (xs : List Int) (i : Nat) : Int := xs.getD i 0

theorem at_neg (v : Value) (i : Int) (w : World) (h : i < 0) : Calls Try.prog 71 #[v, .int .i64 i] w fun e w' => e = .returned (.int .u64 0) ∧ w = w' := by
  go_enter Try.func71, Try.ntmps71
  go_wp2
  go_ret
  exact ⟨rfl, rfl⟩
theorem at_out (A : Option Addr) (n c : Nat) (i : Nat) (w : World) (h : n ≤ i) : Calls Try.prog 71 #[.slice A n c, .int .i64 i] w fun e w' => e = .returned (.int .u64 0) ∧ w = w' := by
  have h2 : ¬ (i : Int) < 0 := by omega
  have h3 : (n : Int) ≤ (i : Int) := by omega
  go_enter Try.func71, Try.ntmps71
  go_wp2
  go_ret
  exact ⟨rfl, rfl⟩
theorem at_in (b off n c : Nat) (i : Nat) (x : Int) (w : World) (h : i < n) (hn : n ≤ 9223372036854775807) (hc : w.cell? ⟨b, off + i, none⟩ = some (.int .u64 x)) :
    Calls Try.prog 71 #[.slice (some ⟨b, off, none⟩) n c, .int .i64 i] w fun e w' => e = .returned (.int .u64 x) ∧ w = w' := by
  have h2 : ¬ (i : Int) < 0 := by omega
  have h3 : ¬ (n : Int) ≤ (i : Int) := by omega
  go_enter Try.func71, Try.ntmps71
  go_wp2
  go_ret
  exact ⟨rfl, rfl⟩
theorem at_any (v : Value) (xs : List Int) (i : Nat) (w : World) (F : Nat → Prop) (h : Sl (kI .u64) w F v xs) : Calls Try.prog 71 #[v, .int .i64 i] w fun e w' => e = .returned (.int .u64 (vat xs i)) ∧ w = w' := by
  rcases h.ints with ⟨rfl, A, c, rfl⟩ | ⟨h0, h1, b, off, c, rfl, h2, h3, hF, hb, hc⟩
  · exact (at_out A 0 c i w (by omega)).mono fun e w' h => ⟨by rw [h.1]; simp [vat], h.2⟩
  · rcases Nat.lt_or_ge i xs.length with hi | hi
    · have hx := (hc i _ (List.getElem?_eq_getElem hi)).1
      exact (at_in b off _ c i _ w hi h1 hx).mono fun e w' h => ⟨by rw [h.1]; simp [vat, hi], h.2⟩
    · exact (at_out _ _ c i w hi).mono fun e w' h => ⟨by rw [h.1]; simp [vat, List.getElem?_eq_none hi], h.2⟩

/-- How long the longest of some vectors is. -/
def vlen (ls : List (List Int)) : Nat := ls.foldl (fun n a => max n a.length) 0
theorem vlen_snoc (ls : List (List Int)) (a : List Int) : vlen (ls ++ [a]) = max (vlen ls) a.length := by simp [vlen, List.foldl_append]
theorem take_snoc {α : Type} (xs : List α) (k : Nat) (x : α) (h : xs[k]? = some x) : xs.take (k + 1) = xs.take k ++ [x] := by
  rw [List.take_add_one, h]; rfl
theorem vlen_le {ls : List (List Int)} {m : Nat} (h : ∀ a ∈ ls, a.length ≤ m) : vlen ls ≤ m := by
  have key : ∀ (ls : List (List Int)) (n : Nat), n ≤ m → (∀ a ∈ ls, a.length ≤ m) → ls.foldl (fun n a => max n a.length) n ≤ m := by
    intro ls
    induction ls with
    | nil => intro n hn _; exact hn
    | cons a ls ih => intro n hn hl; exact ih _ (by have := hl a (by simp); show max n a.length ≤ m; omega) (fun x hx => hl x (by simp [hx]))
  exact key ls 0 (Nat.zero_le _) h

theorem longest_any (v : Value) (ls : List (List Int)) (w : World) (F : Nat → Prop) (h : Sl (kSl (kI .u64)) w F v ls) :
    Calls Try.prog 80 #[v] w fun e w' => e = .returned (.int .i64 (vlen ls)) ∧ w = w' := by
  rcases h.rows with ⟨rfl, A, c, rfl⟩ | ⟨h0, h1, b, off, c, rfl, h2, h3, hF, hb, hc⟩
  · go_enter Try.func80, Try.ntmps80
    go_wp2
    go_loop [3, 5, 8] (fun t _ i => t = .int .i64 0 ∧ i = .int .i64 0) (fun _ _ _ => 0)
    case atStart => exact ⟨rfl, rfl⟩
    case round =>
      obtain ⟨rfl, rfl⟩ := hrel
      go_wp2
      go_ret
      exact ⟨ret_int (by simp [vlen]), rfl⟩
  · have hlen : ∀ a ∈ ls, a.length ≤ 9223372036854775807 := by
      intro a ha
      obtain ⟨j, hj⟩ := List.mem_iff_getElem?.1 ha
      obtain ⟨u, _, hu⟩ := hc j a hj
      obtain ⟨_, _, _, hl, hm⟩ := hu.slice
      simp only [maxLen] at hm
      omega
    obtain ⟨n, hn⟩ : ∃ n, n = ls.length := ⟨_, rfl⟩
    rw [← hn] at h0 h1 h2 ⊢
    have HN : Hid (n = ls.length) := hn
    clear hn
    have HC : Hid (∀ (j : Nat) (x : List Int), ls[j]? = some x → ∃ u, w.cell? ⟨b, off + j, none⟩ = some u ∧ Sl (kI .u64) w F u x) := hc
    clear hc
    have HL : Hid (∀ a ∈ ls, a.length ≤ 9223372036854775807) := hlen
    clear hlen
    go_enter Try.func80, Try.ntmps80
    go_wp2
    go_loop [3, 5, 8] (fun t _ i => ∃ k : Nat, k ≤ n ∧ t = .int .i64 (vlen (ls.take k)) ∧ i = .int .i64 k) (fun _ _ i => n - (intOf i).toNat)
    case atStart => exact ⟨0, Nat.zero_le _, rfl, rfl⟩
    case round =>
      obtain ⟨k, hk, rfl, rfl⟩ := hrel
      by_cases hlt : k < n
      · have hx : ls[k]? = some (ls[k]'(by rw [← HN.out]; exact hlt)) := List.getElem?_eq_getElem _
        obtain ⟨u, hu, hs⟩ := HC.out k _ hx
        obtain ⟨A, c', rfl, hl, hm⟩ := hs.slice
        have hts := take_snoc _ _ _ hx
        obtain ⟨L, hL⟩ : ∃ L : Nat, L = (ls[k]'(by rw [← HN.out]; exact hlt)).length := ⟨_, rfl⟩
        rw [← hL] at hu
        obtain ⟨V, hV⟩ : ∃ V : Nat, V = vlen (ls.take k) := ⟨_, rfl⟩
        have hV2 : vlen (ls.take (k + 1)) = max V L := by rw [hts, vlen_snoc, hV, hL]
        rw [← hV]
        have HV : Hid (vlen (ls.take (k + 1)) = max V L) := hV2
        clear hV2 hL hV hts hx hs hl hm
        go_wp2
        go_round
        case rel => exact ⟨k + 1, by omega, by rw [HV.out]; go_num, by go_num⟩
        case measure => simp [intOf]; omega
      · go_wp2
        go_ret
        have : k = n := by omega
        subst this
        exact ⟨ret_int (by rw [List.take_of_length_le (by rw [HN.out]; omega)]), rfl⟩

/-- What comes of the numbers of each process. -/
def vfold (op : Int → Int → Int) (ls : List (List Int)) : List Int := (List.range (vlen ls)).map fun i => ls.tail.foldl (fun n a => op n (vat a i)) (vat (ls.headD []) i)

theorem inr_vat {xs : List Int} (h : ∀ x ∈ xs, InR .u64 x) (i : Nat) : InR .u64 (vat xs i) := by
  unfold vat
  rw [List.getD_eq_getElem?_getD]
  cases hx : xs[i]? with
  | none => simp [inr_u64]
  | some x => exact h x (List.mem_of_getElem? hx)

theorem info_u64 : (Try.prog.info? 26).map (fun i => (i.zero, i.size, i.bytes)) = some (some (.int .u64 0), 1, 8) := by kernel_rfl

/-- One number more, behind those of a row. -/
theorem src_new {w : World} {e : TypeId} {c : Value} (h : c.oneCell' = true) : Src (w.alloc (.cells #[c] e)) (fun k => k = w.heap.size) 1 (.slice (some ⟨w.heap.size, 0, none⟩) 1 1) 1 [c] :=
  ⟨_, 1, rfl, Nat.le_refl _, by decide, rfl, fun u hu => by rw [List.mem_singleton.1 hu]; exact h, fun _ => ⟨w.heap.size, 0, rfl, rfl, fun j u hj => by
    cases j with
    | zero => have : c = u := by simpa using hj
              subst this; simp
    | succ j => simp at hj⟩⟩

theorem src_newN {w : World} {N : Nat} {e : TypeId} {c : Value} (hN : w.heap.size = N) (h : c.oneCell' = true) : Src (w.alloc (.cells #[c] e)) (fun k => k = N) 1 (.slice (some ⟨N, 0, none⟩) 1 1) 1 [c] := by
  subst hN
  exact src_new h

theorem max_op (a b : Int) (w : World) : Calls Try.prog 70 #[.int .u64 a, .int .u64 b] w fun e w' => e = .returned (.int .u64 (max a b)) ∧ w = w' := by
  go_enter Try.func70, Try.ntmps70
  go_wp2
  all_goals
    go_ret
    exact ⟨ret_int (by omega), rfl⟩

set_option maxHeartbeats 1000000 in
theorem fold_max (v : Value) (ls : List (List Int)) (w : World) (F : Nat → Prop) (h : Sl (kSl (kI .u64)) w F v ls) (hreach : ∀ a ∈ ls, a.length ≤ 17592186044415) :
    Calls Try.prog 68 #[.func (.func 70) #[] #[], v] w fun e w' => ∃ v', e = .returned v' ∧ TW (kI .u64) 26 w' No v' (vfold max ls) ∧ Fresh w v' ∧ Kept No w w' := by
  have hL := longest_any v ls w F h
  have hvl := vlen_le hreach
  obtain ⟨n, hn⟩ : ∃ n, n = vlen ls := ⟨_, rfl⟩
  rw [← hn] at hL hvl
  have HN : Hid (n = vlen ls) := hn
  clear hn
  rcases h.rows with ⟨rfl, A, c, rfl⟩ | ⟨h0, h1, b, off, c, rfl, h2, h3, hF, hb, hc⟩
  · have hz : n = 0 := by have := HN.out; simpa [vlen] using this
    subst hz
    go_enter Try.func68, Try.ntmps68
    go_wp2_with (go_at_call 80; ((with_reducible refine hL.mono ?_); rintro e w' ⟨rfl, rfl⟩))
    go_loop [5, 12] (fun o i => o = .slice none 0 0 ∧ i = .int .i64 0) (fun _ _ => 0)
    case atStart => exact ⟨rfl, rfl⟩
    case round =>
      obtain ⟨rfl, rfl⟩ := hrel
      go_wp2
      go_ret
      exact ⟨_, rfl, by rw [vfold, ← HN.out]; exact TW.nil _ _ _ _, Fresh.nil _, Kept.refl _ _⟩
  · have hin : ∀ a ∈ ls, ∀ x ∈ a, InR .u64 x := by
      intro a ha
      obtain ⟨j, hj⟩ := List.mem_iff_getElem?.1 ha
      obtain ⟨u, _, hu⟩ := hc j a hj
      exact hu.inr
    obtain ⟨l0, lt, rfl⟩ : ∃ a b, ls = a :: b := by cases ls with | nil => simp at h0 | cons a b => exact ⟨a, b, rfl⟩
    obtain ⟨u0, hu0, hs0⟩ := hc 0 l0 rfl
    have HC : Hid (∀ (j : Nat) (x : List Int), lt[j]? = some x → ∃ u, w.cell? ⟨b, off + 1 + j, none⟩ = some u ∧ Sl (kI .u64) w F u x) := fun j x hx => by
      obtain ⟨u, hu, hs⟩ := hc (j + 1) x hx
      exact ⟨u, by rw [← hu]; congr 2; omega, hs⟩
    clear hc
    obtain ⟨m, hm⟩ : ∃ m, m = lt.length := ⟨_, rfl⟩
    simp only [List.length_cons] at h0 h1 h2 hL ⊢
    rw [← hm] at h0 h1 h2 hL ⊢
    have HM : Hid (m = lt.length) := hm
    clear hm h
    simp only [Nat.add_zero] at hu0
    have hrow : ∀ k, k < n → (vfold max (l0 :: lt)).take (k + 1) = (vfold max (l0 :: lt)).take k ++ [lt.foldl (fun n a => max n (vat a k)) (vat l0 k)] := by
      intro k hk
      refine take_snoc _ _ _ ?_
      rw [HN.out] at hk
      simp [vfold, hk]
    have hlen : (vfold max (l0 :: lt)).length = n := by rw [HN.out]; simp [vfold]
    have HR : Hid (∀ k, k < n → (vfold max (l0 :: lt)).take (k + 1) = (vfold max (l0 :: lt)).take k ++ [lt.foldl (fun n a => max n (vat a k)) (vat l0 k)]) := hrow
    have HE : Hid ((vfold max (l0 :: lt)).length = n) := hlen
    clear hrow hlen
    have HI : Hid (∀ a ∈ l0 :: lt, ∀ x ∈ a, InR .u64 x) := hin
    clear hin hreach
    rcases (show (c = 1 ∧ m = 0) ∨ ¬ c = 1 by omega) with ⟨hc1, hm0⟩ | hc1
    · subst hc1
      subst hm0
      have HZ : Hid (lt = []) := List.eq_nil_of_length_eq_zero HM.out.symm
      simp only [Nat.zero_add] at hL ⊢
      go_enter Try.func68, Try.ntmps68
      go_wp2_with (go_at_call 80; ((with_reducible refine hL.mono ?_); rintro e w' ⟨rfl, rfl⟩))
      go_loopw [5, 12] (fun o i wr => ∃ k : Nat, k ≤ n ∧ i = .int .i64 k ∧ TW (kI .u64) 26 wr No o ((vfold max (l0 :: lt)).take k) ∧ Fresh w o ∧ Kept No w wr) (fun _ i _ => n - (intOf i).toNat)
      case atStart => exact ⟨0, Nat.zero_le _, rfl, TW.nil _ _ _ _, Fresh.nil _, Kept.refl _ _⟩
      case round =>
        obtain ⟨k, hk, rfl, htw, hfr, hke⟩ := hrel
        by_cases hlt : k < n
        · have hcc := kcell hke
          have hs := hs0.new hke
          go_wp2_with (go_at_call 71; ((with_reducible refine (at_any _ _ k _ _ hs).mono ?_); rintro e w' ⟨rfl, rfl⟩))
          go_loop [7, 23] (fun t i => i = .int .i64 0 ∧ t = .int .u64 (vat l0 k)) (fun _ i => 0)
          case atStart => exact ⟨rfl, rfl⟩
          case round =>
            obtain ⟨rfl, rfl⟩ := hrel
            have hlen : ((vfold max (l0 :: lt)).take k).length = k := by rw [List.length_take, HE.out]; omega
            have hx := inr_vat (HI.out l0 (by simp)) k
            have hR := HR.out k hlt
            rw [show lt.foldl (fun n a => max n (vat a k)) (vat l0 k) = vat l0 k by rw [HZ.out]; rfl] at hR
            clear hcc hs
            go_wp2_with (at_builtin; refine wpList_append_tw (d := kI .u64) (F := fun k' => k' = wr.heap.size) rfl (.tmp 34) (.tmp 36) 27 rfl 26 (.int .u64 0) 8 Try.underlying27 info_u64 rfl _ _ 1 _ [vat l0 k] [.int .u64 (vat l0 k)] rfl (htw.new ((Kept.refl _ _).alloc _)) rfl (src_new rfl) (reps_ints (by simpa using hx)) rfl (fun _ h => h.elim) ?_ ?_ ?_)
            · simp only [maxLen]; omega
            · omega
            · intro v' w' htw2 hk2 hb2
              have hfr2 := hfr.next (w := wr.alloc (.cells #[.int .u64 (vat l0 k)] 26)) (by have := hke.size; simp; omega) (by simpa using hb2)
              have hke2 := (hke.alloc _).fresh hk2 hfr
              rw [← hR] at htw2
              clear hk2 hb2 hke htw hfr hR hx hlen
              go_wp2
              go_roundw
              case rel => exact ⟨k + 1, by omega, by go_num, htw2, hfr2, hke2⟩
              case measure => simp [intOf]; omega
        · go_wp2
          go_ret
          have : k = n := by omega
          subst this
          exact ⟨_, rfl, by rw [List.take_of_length_le (by rw [HE.out]; omega)] at htw; exact htw, hfr, hke⟩
    · go_enter Try.func68, Try.ntmps68
      go_wp2_with (go_at_call 80; ((with_reducible refine hL.mono ?_); rintro e w' ⟨rfl, rfl⟩))
      go_loopw [5, 12] (fun o i wr => ∃ k : Nat, k ≤ n ∧ i = .int .i64 k ∧ TW (kI .u64) 26 wr No o ((vfold max (l0 :: lt)).take k) ∧ Fresh w o ∧ Kept No w wr) (fun _ i _ => n - (intOf i).toNat)
      case atStart => exact ⟨0, Nat.zero_le _, rfl, TW.nil _ _ _ _, Fresh.nil _, Kept.refl _ _⟩
      case round =>
        obtain ⟨k, hk, rfl, htw, hfr, hke⟩ := hrel
        by_cases hlt : k < n
        · have hcc := kcell hke
          have hs := hs0.new hke
          go_wp2_with (go_at_call 71; ((with_reducible refine (at_any _ _ k _ _ hs).mono ?_); rintro e w' ⟨rfl, rfl⟩))
          go_loop [7, 23] (fun t i => ∃ j : Nat, j ≤ m ∧ i = .int .i64 j ∧ t = .int .u64 ((lt.take j).foldl (fun n a => max n (vat a k)) (vat l0 k))) (fun _ i => m - (intOf i).toNat)
          case atStart => exact ⟨0, Nat.zero_le _, rfl, rfl⟩
          case round =>
            obtain ⟨j, hj, rfl, rfl⟩ := hrel
            by_cases hlj : j < m
            · obtain ⟨x, hx⟩ : ∃ x, lt[j]? = some x := ⟨_, List.getElem?_eq_getElem (by rw [← HM.out]; exact hlj)⟩
              obtain ⟨u, hu, hsu⟩ := HC.out j x hx
              have hsx := hsu.new hke
              obtain ⟨T, hT⟩ : ∃ T, T = (lt.take j).foldl (fun n a => max n (vat a k)) (vat l0 k) := ⟨_, rfl⟩
              have hT2 : (lt.take (j + 1)).foldl (fun n a => max n (vat a k)) (vat l0 k) = max T (vat x k) := by rw [take_snoc _ _ _ hx, List.foldl_append, hT]; rfl
              rw [← hT]
              have HT : Hid ((lt.take (j + 1)).foldl (fun n a => max n (vat a k)) (vat l0 k) = max T (vat x k)) := hT2
              have hbu : b < w.heap.size := hb
              clear hT2 hT hx hsu hs
              go_wp2_with (first | (go_at_call 71; ((with_reducible refine (at_any _ _ k _ _ hsx).mono ?_); rintro e w' ⟨rfl, rfl⟩)) | (go_at_call 70; ((with_reducible refine (max_op _ _ _).mono ?_); rintro e w' ⟨rfl, rfl⟩)))
              go_round
              case rel => exact ⟨j + 1, by omega, by go_num, by rw [HT.out]⟩
              case measure => simp [intOf]; omega
            · have hjm : j = m := by omega
              subst hjm
              have hlen : ((vfold max (l0 :: lt)).take k).length = k := by rw [List.length_take, HE.out]; omega
              have hR := HR.out k hlt
              rw [List.take_of_length_le (by rw [HM.out]; exact Nat.le_refl _)]
              obtain ⟨T, hT⟩ : ∃ T, T = lt.foldl (fun n a => max n (vat a k)) (vat l0 k) := ⟨_, rfl⟩
              have hx : InR .u64 T := by
                have hall := HI.out
                have key : ∀ (l : List (List Int)) (t : Int), InR .u64 t → (∀ a ∈ l, ∀ x ∈ a, InR .u64 x) → InR .u64 (l.foldl (fun n a => max n (vat a k)) t) := by
                  intro l
                  induction l with
                  | nil => intro t ht _; exact ht
                  | cons a l ih => intro t ht hl; exact ih _ (by have h1 := inr_vat (hl a (by simp)) k; simp only [inr_u64] at ht h1 ⊢; omega) (fun y hy => hl y (by simp [hy]))
                rw [hT]
                exact key lt _ (inr_vat (hall l0 (by simp)) k) (fun a ha => hall a (by simp [ha]))
              rw [← hT] at hR ⊢
              clear hcc hs hT
              go_wp2_with (at_builtin; refine wpList_append_tw (d := kI .u64) (F := fun k' => k' = wr.heap.size) rfl (.tmp 34) (.tmp 36) 27 rfl 26 (.int .u64 0) 8 Try.underlying27 info_u64 rfl _ _ 1 _ [T] [.int .u64 T] rfl (htw.new ((Kept.refl _ _).alloc _)) rfl (src_new rfl) (reps_ints (by simpa using hx)) rfl (fun _ h => h.elim) ?_ ?_ ?_)
              · simp only [maxLen]; omega
              · omega
              · intro v' w' htw2 hk2 hb2
                have hfr2 := hfr.next (w := wr.alloc (.cells #[.int .u64 T] 26)) (by have := hke.size; simp; omega) (by simpa using hb2)
                have hke2 := (hke.alloc _).fresh hk2 hfr
                rw [← hR] at htw2
                clear hk2 hb2 hke htw hfr hR hx hlen
                go_wp2
                go_roundw
                case rel => exact ⟨k + 1, by omega, by go_num, htw2, hfr2, hke2⟩
                case measure => simp [intOf]; omega
        · go_wp2
          go_ret
          have : k = n := by omega
          subst this
          exact ⟨_, rfl, by rw [List.take_of_length_le (by rw [HE.out]; omega)] at htw; exact htw, hfr, hke⟩
theorem min_op (a b : Int) (w : World) : Calls Try.prog 69 #[.int .u64 a, .int .u64 b] w fun e w' => e = .returned (.int .u64 (min a b)) ∧ w = w' := by
  go_enter Try.func69, Try.ntmps69
  go_wp2
  all_goals
    go_ret
    exact ⟨ret_int (by omega), rfl⟩

set_option maxHeartbeats 1000000 in
theorem fold_min (v : Value) (ls : List (List Int)) (w : World) (F : Nat → Prop) (h : Sl (kSl (kI .u64)) w F v ls) (hreach : ∀ a ∈ ls, a.length ≤ 17592186044415) :
    Calls Try.prog 68 #[.func (.func 69) #[] #[], v] w fun e w' => ∃ v', e = .returned v' ∧ TW (kI .u64) 26 w' No v' (vfold min ls) ∧ Fresh w v' ∧ Kept No w w' := by
  have hL := longest_any v ls w F h
  have hvl := vlen_le hreach
  obtain ⟨n, hn⟩ : ∃ n, n = vlen ls := ⟨_, rfl⟩
  rw [← hn] at hL hvl
  have HN : Hid (n = vlen ls) := hn
  clear hn
  rcases h.rows with ⟨rfl, A, c, rfl⟩ | ⟨h0, h1, b, off, c, rfl, h2, h3, hF, hb, hc⟩
  · have hz : n = 0 := by have := HN.out; simpa [vlen] using this
    subst hz
    go_enter Try.func68, Try.ntmps68
    go_wp2_with (go_at_call 80; ((with_reducible refine hL.mono ?_); rintro e w' ⟨rfl, rfl⟩))
    go_loop [5, 12] (fun o i => o = .slice none 0 0 ∧ i = .int .i64 0) (fun _ _ => 0)
    case atStart => exact ⟨rfl, rfl⟩
    case round =>
      obtain ⟨rfl, rfl⟩ := hrel
      go_wp2
      go_ret
      exact ⟨_, rfl, by rw [vfold, ← HN.out]; exact TW.nil _ _ _ _, Fresh.nil _, Kept.refl _ _⟩
  · have hin : ∀ a ∈ ls, ∀ x ∈ a, InR .u64 x := by
      intro a ha
      obtain ⟨j, hj⟩ := List.mem_iff_getElem?.1 ha
      obtain ⟨u, _, hu⟩ := hc j a hj
      exact hu.inr
    obtain ⟨l0, lt, rfl⟩ : ∃ a b, ls = a :: b := by cases ls with | nil => simp at h0 | cons a b => exact ⟨a, b, rfl⟩
    obtain ⟨u0, hu0, hs0⟩ := hc 0 l0 rfl
    have HC : Hid (∀ (j : Nat) (x : List Int), lt[j]? = some x → ∃ u, w.cell? ⟨b, off + 1 + j, none⟩ = some u ∧ Sl (kI .u64) w F u x) := fun j x hx => by
      obtain ⟨u, hu, hs⟩ := hc (j + 1) x hx
      exact ⟨u, by rw [← hu]; congr 2; omega, hs⟩
    clear hc
    obtain ⟨m, hm⟩ : ∃ m, m = lt.length := ⟨_, rfl⟩
    simp only [List.length_cons] at h0 h1 h2 hL ⊢
    rw [← hm] at h0 h1 h2 hL ⊢
    have HM : Hid (m = lt.length) := hm
    clear hm h
    simp only [Nat.add_zero] at hu0
    have hrow : ∀ k, k < n → (vfold min (l0 :: lt)).take (k + 1) = (vfold min (l0 :: lt)).take k ++ [lt.foldl (fun n a => min n (vat a k)) (vat l0 k)] := by
      intro k hk
      refine take_snoc _ _ _ ?_
      rw [HN.out] at hk
      simp [vfold, hk]
    have hlen : (vfold min (l0 :: lt)).length = n := by rw [HN.out]; simp [vfold]
    have HR : Hid (∀ k, k < n → (vfold min (l0 :: lt)).take (k + 1) = (vfold min (l0 :: lt)).take k ++ [lt.foldl (fun n a => min n (vat a k)) (vat l0 k)]) := hrow
    have HE : Hid ((vfold min (l0 :: lt)).length = n) := hlen
    clear hrow hlen
    have HI : Hid (∀ a ∈ l0 :: lt, ∀ x ∈ a, InR .u64 x) := hin
    clear hin hreach
    rcases (show (c = 1 ∧ m = 0) ∨ ¬ c = 1 by omega) with ⟨hc1, hm0⟩ | hc1
    · subst hc1
      subst hm0
      have HZ : Hid (lt = []) := List.eq_nil_of_length_eq_zero HM.out.symm
      simp only [Nat.zero_add] at hL ⊢
      go_enter Try.func68, Try.ntmps68
      go_wp2_with (go_at_call 80; ((with_reducible refine hL.mono ?_); rintro e w' ⟨rfl, rfl⟩))
      go_loopw [5, 12] (fun o i wr => ∃ k : Nat, k ≤ n ∧ i = .int .i64 k ∧ TW (kI .u64) 26 wr No o ((vfold min (l0 :: lt)).take k) ∧ Fresh w o ∧ Kept No w wr) (fun _ i _ => n - (intOf i).toNat)
      case atStart => exact ⟨0, Nat.zero_le _, rfl, TW.nil _ _ _ _, Fresh.nil _, Kept.refl _ _⟩
      case round =>
        obtain ⟨k, hk, rfl, htw, hfr, hke⟩ := hrel
        by_cases hlt : k < n
        · have hcc := kcell hke
          have hs := hs0.new hke
          go_wp2_with (go_at_call 71; ((with_reducible refine (at_any _ _ k _ _ hs).mono ?_); rintro e w' ⟨rfl, rfl⟩))
          go_loop [7, 23] (fun t i => i = .int .i64 0 ∧ t = .int .u64 (vat l0 k)) (fun _ i => 0)
          case atStart => exact ⟨rfl, rfl⟩
          case round =>
            obtain ⟨rfl, rfl⟩ := hrel
            have hlen : ((vfold min (l0 :: lt)).take k).length = k := by rw [List.length_take, HE.out]; omega
            have hx := inr_vat (HI.out l0 (by simp)) k
            have hR := HR.out k hlt
            rw [show lt.foldl (fun n a => min n (vat a k)) (vat l0 k) = vat l0 k by rw [HZ.out]; rfl] at hR
            clear hcc hs
            go_wp2_with (at_builtin; refine wpList_append_tw (d := kI .u64) (F := fun k' => k' = wr.heap.size) rfl (.tmp 34) (.tmp 36) 27 rfl 26 (.int .u64 0) 8 Try.underlying27 info_u64 rfl _ _ 1 _ [vat l0 k] [.int .u64 (vat l0 k)] rfl (htw.new ((Kept.refl _ _).alloc _)) rfl (src_new rfl) (reps_ints (by simpa using hx)) rfl (fun _ h => h.elim) ?_ ?_ ?_)
            · simp only [maxLen]; omega
            · omega
            · intro v' w' htw2 hk2 hb2
              have hfr2 := hfr.next (w := wr.alloc (.cells #[.int .u64 (vat l0 k)] 26)) (by have := hke.size; simp; omega) (by simpa using hb2)
              have hke2 := (hke.alloc _).fresh hk2 hfr
              rw [← hR] at htw2
              clear hk2 hb2 hke htw hfr hR hx hlen
              go_wp2
              go_roundw
              case rel => exact ⟨k + 1, by omega, by go_num, htw2, hfr2, hke2⟩
              case measure => simp [intOf]; omega
        · go_wp2
          go_ret
          have : k = n := by omega
          subst this
          exact ⟨_, rfl, by rw [List.take_of_length_le (by rw [HE.out]; omega)] at htw; exact htw, hfr, hke⟩
    · go_enter Try.func68, Try.ntmps68
      go_wp2_with (go_at_call 80; ((with_reducible refine hL.mono ?_); rintro e w' ⟨rfl, rfl⟩))
      go_loopw [5, 12] (fun o i wr => ∃ k : Nat, k ≤ n ∧ i = .int .i64 k ∧ TW (kI .u64) 26 wr No o ((vfold min (l0 :: lt)).take k) ∧ Fresh w o ∧ Kept No w wr) (fun _ i _ => n - (intOf i).toNat)
      case atStart => exact ⟨0, Nat.zero_le _, rfl, TW.nil _ _ _ _, Fresh.nil _, Kept.refl _ _⟩
      case round =>
        obtain ⟨k, hk, rfl, htw, hfr, hke⟩ := hrel
        by_cases hlt : k < n
        · have hcc := kcell hke
          have hs := hs0.new hke
          go_wp2_with (go_at_call 71; ((with_reducible refine (at_any _ _ k _ _ hs).mono ?_); rintro e w' ⟨rfl, rfl⟩))
          go_loop [7, 23] (fun t i => ∃ j : Nat, j ≤ m ∧ i = .int .i64 j ∧ t = .int .u64 ((lt.take j).foldl (fun n a => min n (vat a k)) (vat l0 k))) (fun _ i => m - (intOf i).toNat)
          case atStart => exact ⟨0, Nat.zero_le _, rfl, rfl⟩
          case round =>
            obtain ⟨j, hj, rfl, rfl⟩ := hrel
            by_cases hlj : j < m
            · obtain ⟨x, hx⟩ : ∃ x, lt[j]? = some x := ⟨_, List.getElem?_eq_getElem (by rw [← HM.out]; exact hlj)⟩
              obtain ⟨u, hu, hsu⟩ := HC.out j x hx
              have hsx := hsu.new hke
              obtain ⟨T, hT⟩ : ∃ T, T = (lt.take j).foldl (fun n a => min n (vat a k)) (vat l0 k) := ⟨_, rfl⟩
              have hT2 : (lt.take (j + 1)).foldl (fun n a => min n (vat a k)) (vat l0 k) = min T (vat x k) := by rw [take_snoc _ _ _ hx, List.foldl_append, hT]; rfl
              rw [← hT]
              have HT : Hid ((lt.take (j + 1)).foldl (fun n a => min n (vat a k)) (vat l0 k) = min T (vat x k)) := hT2
              have hbu : b < w.heap.size := hb
              clear hT2 hT hx hsu hs
              go_wp2_with (first | (go_at_call 71; ((with_reducible refine (at_any _ _ k _ _ hsx).mono ?_); rintro e w' ⟨rfl, rfl⟩)) | (go_at_call 69; ((with_reducible refine (min_op _ _ _).mono ?_); rintro e w' ⟨rfl, rfl⟩)))
              go_round
              case rel => exact ⟨j + 1, by omega, by go_num, by rw [HT.out]⟩
              case measure => simp [intOf]; omega
            · have hjm : j = m := by omega
              subst hjm
              have hlen : ((vfold min (l0 :: lt)).take k).length = k := by rw [List.length_take, HE.out]; omega
              have hR := HR.out k hlt
              rw [List.take_of_length_le (by rw [HM.out]; exact Nat.le_refl _)]
              obtain ⟨T, hT⟩ : ∃ T, T = lt.foldl (fun n a => min n (vat a k)) (vat l0 k) := ⟨_, rfl⟩
              have hx : InR .u64 T := by
                have hall := HI.out
                have key : ∀ (l : List (List Int)) (t : Int), InR .u64 t → (∀ a ∈ l, ∀ x ∈ a, InR .u64 x) → InR .u64 (l.foldl (fun n a => min n (vat a k)) t) := by
                  intro l
                  induction l with
                  | nil => intro t ht _; exact ht
                  | cons a l ih => intro t ht hl; exact ih _ (by have h1 := inr_vat (hl a (by simp)) k; simp only [inr_u64] at ht h1 ⊢; omega) (fun y hy => hl y (by simp [hy]))
                rw [hT]
                exact key lt _ (inr_vat (hall l0 (by simp)) k) (fun a ha => hall a (by simp [ha]))
              rw [← hT] at hR ⊢
              clear hcc hs hT
              go_wp2_with (at_builtin; refine wpList_append_tw (d := kI .u64) (F := fun k' => k' = wr.heap.size) rfl (.tmp 34) (.tmp 36) 27 rfl 26 (.int .u64 0) 8 Try.underlying27 info_u64 rfl _ _ 1 _ [T] [.int .u64 T] rfl (htw.new ((Kept.refl _ _).alloc _)) rfl (src_new rfl) (reps_ints (by simpa using hx)) rfl (fun _ h => h.elim) ?_ ?_ ?_)
              · simp only [maxLen]; omega
              · omega
              · intro v' w' htw2 hk2 hb2
                have hfr2 := hfr.next (w := wr.alloc (.cells #[.int .u64 T] 26)) (by have := hke.size; simp; omega) (by simpa using hb2)
                have hke2 := (hke.alloc _).fresh hk2 hfr
                rw [← hR] at htw2
                clear hk2 hb2 hke htw hfr hR hx hlen
                go_wp2
                go_roundw
                case rel => exact ⟨k + 1, by omega, by go_num, htw2, hfr2, hke2⟩
                case measure => simp [intOf]; omega
        · go_wp2
          go_ret
          have : k = n := by omega
          subst this
          exact ⟨_, rfl, by rw [List.take_of_length_le (by rw [HE.out]; omega)] at htw; exact htw, hfr, hke⟩
end Go.Proofs.Ytfnecdkfhackkaa
