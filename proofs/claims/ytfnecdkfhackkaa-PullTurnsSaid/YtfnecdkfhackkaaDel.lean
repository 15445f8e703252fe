/- slices.IndexFunc, slices.DeleteFunc over structs, with a function that only looks at its argument. -/
import Derived.Test.YtfnecdkfhackkaaVec
import Derived.Test.YtfnecdkfhackkaaWhole
set_option linter.unusedVariables false
set_option linter.unusedSimpArgs false
namespace Go.Proofs.Ytfnecdkfhackkaa
open Go.RowKit

def idxP {α : Type} (p : α → Bool) (xs : List α) : Int := match xs.findIdx? p with | some i => i | none => -1
theorem idxP_hit {α : Type} {p : α → Bool} {xs : List α} {k : Nat} {x : α} (hx : xs[k]? = some x) (h : p x = true) (hn : ∀ j y, j < k → xs[j]? = some y → p y = false) : idxP p xs = k := by
  have : xs.findIdx? p = some k := by
    rw [List.findIdx?_eq_some_iff_getElem]
    obtain ⟨hlt, he⟩ := List.getElem?_eq_some_iff.1 hx
    refine ⟨hlt, by rw [he]; exact h, fun j hj => ?_⟩
    simp [hn j _ hj (List.getElem?_eq_getElem (by omega))]
  rw [idxP, this]
theorem idxP_miss {α : Type} {p : α → Bool} {xs : List α} (hn : ∀ (j : Nat) (y : α), xs[j]? = some y → p y = false) : idxP p xs = -1 := by
  have : xs.findIdx? p = none := by
    rw [List.findIdx?_eq_none_iff]
    intro x hx
    obtain ⟨j, hj⟩ := List.mem_iff_getElem?.1 hx
    exact hn j x hj
  rw [idxP, this]
theorem filter_take_snoc {α : Type} (p : α → Bool) (xs : List α) (k : Nat) (x : α) (h : xs[k]? = some x) : (xs.take (k + 1)).filter p = (xs.take k).filter p ++ (if p x then [x] else []) := by
  rw [take_snoc xs k x h, List.filter_append]
  cases hp : p x <;> simp [hp]

theorem set_mid {α : Type} (F Z D : List α) (x : α) (h : 0 < Z.length) : (F ++ Z ++ (x :: D)).set F.length x = (F ++ [x]) ++ (Z.tail ++ [x]) ++ D := by
  cases Z with
  | nil => simp at h
  | cons z zs => simp
theorem del_end {α : Type} {d : Kd α} {e : TypeId} {w w' : World} {G : Nat → Prop} {g off j c i : Nat} {ys : List α} {yc xs' : List Value} (hw : Win w e d.sz (.slice (some ⟨g, off, none⟩) j c) j yc) (hr : Reps (d.K w G) d.sz ys yc) (hg : ¬ G g) (hyl : ys.length = j)
    (hk : Kept (fun k => k = g) w w') (hw' : Win w' e d.sz (.slice (some ⟨g, off, none⟩) j c) j xs') (ht : xs'.take (i * d.sz) = yc.take (i * d.sz)) (hi : i ≤ j) : TW d e w' G (.slice (some ⟨g, off, none⟩) i c) (ys.take i) := by
  have h1 := hw'.takeN hi
  rw [ht] at h1
  have hl : (ys.take i).length = i := by rw [List.length_take]; omega
  refine ⟨_, by rw [hl]; exact h1, (hr.take i).imp fun _ _ => d.move fun k hk' hlt => hk.block k hlt (fun e => hg (e ▸ hk')), fun k hk' => ?_⟩
  have : g = k := by simpa [Value.ownBlock] using hk'
  subst this
  exact hg

theorem dinfo_left : (Try.prog.info? 80).map (fun i => (i.zero, i.size, i.bytes)) = some (some (.agg #[.int .u64 0,.slice none 0 0,.slice none 0 0,.bool false]), 4, 64) := by kernel_rfl
theorem dagg_left : Agg Try.prog 80 4 := Agg.mk' Try.underlying80 rfl (by kernel_rfl)

theorem indexFunc_left {α : Type} (d : Kd α) (hsz : d.sz = 4) (p : α → Bool) (v : Value) (xs : List α) (w : World) (F : Nat → Prop) (h : Sl d w F v xs)
    (HP : Hid (∀ W x cs, Kept No w W → d.K W F x cs → Calls Try.prog 67 #[.agg cs.toArray] W fun e w' => e = .returned (.bool (p x)) ∧ Kept No W w')) :
    Calls Try.prog 79 #[v, .func (.func 67) #[] #[]] w fun e w' => e = .returned (.int .i64 (idxP p xs)) ∧ Kept No w w' := by
  rcases h.cases (by omega) with ⟨rfl, A, c, rfl⟩ | ⟨h0, h1, b, off, c, rfl, h2, h3, hF, hb, hc⟩
  · go_enter Try.func79, Try.ntmps79
    go_wp2
    go_loop [8] (fun i => i = .int .i64 0) (fun _ => 0)
    case atStart => rfl
    case round =>
      obtain rfl := hrel
      go_wp2
      go_ret
      exact ⟨rfl, Kept.refl _ _⟩
  · rw [hsz] at hc
    simp only [maxLen] at h1 h3
    obtain ⟨n, hn⟩ : ∃ n, n = xs.length := ⟨_, rfl⟩
    rw [← hn] at h0 h1 h2 ⊢
    have HH : Hid (n = xs.length ∧ Sl d w F (.slice (some ⟨b, off, none⟩) xs.length c) xs ∧ ∀ j x, xs[j]? = some x → ∃ cs, d.K w F x cs ∧ ∀ i u, cs[i]? = some u → w.cell? ⟨b, off + j * 4 + i, none⟩ = some u) := ⟨hn, h, hc⟩
    clear hn h hc
    go_enter Try.func79, Try.ntmps79
    go_wp2
    go_loopw [8] (fun i wr => ∃ k : Nat, k ≤ n ∧ i = .int .i64 k ∧ (∀ j y, j < k → xs[j]? = some y → p y = false) ∧ Kept No w wr) (fun i _ => n - (intOf i).toNat)
    case atStart => exact ⟨0, Nat.zero_le _, rfl, fun _ _ h => absurd h (Nat.not_lt_zero _), Kept.refl _ _⟩
    case round =>
      obtain ⟨k, hk, rfl, hno, hke⟩ := hrel
      by_cases hlt : k < n
      · obtain ⟨x, hx⟩ : ∃ x, xs[k]? = some x := ⟨_, List.getElem?_eq_getElem (by rw [← HH.out.1]; exact hlt)⟩
        obtain ⟨cs, hK, hcell⟩ := HH.out.2.2 k x hx
        have hcl := d.len hK
        have hK2 : d.K wr F x cs := d.move (fun k _ hk => hke.block k hk id) hK
        have hcell2 : ∀ i u, cs[i]? = some u → wr.cell? ⟨b, off + k * 4 + i, none⟩ = some u := fun i u hu => hke.cell (hcell i u hu) id
        have HC : Hid (∀ i u, cs[i]? = some u → wr.cell? ⟨b, off + k * 4 + i, none⟩ = some u) := hcell2
        have hA : Agg Try.prog 80 cs.length := by rw [hcl, hsz]; exact dagg_left
        have hcall := HP.out wr x cs hke hK2
        have HN : Hid ((∀ j y, j < k → xs[j]? = some y → p y = false) ∧ Kept No w wr ∧ xs[k]? = some x) := ⟨hno, hke, hx⟩
        clear hK hcell hcell2 hK2 hcl hno hke hx
        obtain ⟨bv, hbv⟩ : ∃ bv, bv = p x := ⟨_, rfl⟩
        rw [← hbv] at hcall
        have HB : Hid (bv = p x) := hbv
        clear hbv
        cases bv
        all_goals
          go_wp2_with (first | (with_reducible refine wpList_load_whole rfl (.tmp 14) 80 rfl b (off + k * 4) rfl cs hA HC.out ?_) | (go_at_call 67; ((with_reducible refine hcall.mono ?_); rintro e w2 ⟨rfl, hk2⟩)))
        · have hr : ∀ j y, j < k + 1 → xs[j]? = some y → p y = false := fun j y hj hy => by
            rcases Nat.lt_or_ge j k with h | h
            · exact HN.out.1 j y h hy
            · have : j = k := by omega
              subst this
              rw [HN.out.2.2] at hy
              injection hy with hy
              rw [← hy]
              exact HB.out.symm
          have hkn := HN.out.2.1.trans hk2
          clear hk2
          go_roundw
          case rel => exact ⟨k + 1, by omega, by go_num, hr, hkn⟩
          case measure => simp [intOf]; omega
        · go_ret
          exact ⟨ret_int (idxP_hit HN.out.2.2 HB.out.symm HN.out.1).symm, HN.out.2.1.trans hk2⟩
      · go_wp2
        go_ret
        have : k = n := by omega
        subst this
        exact ⟨ret_int (idxP_miss fun j y hy => hno j y (by have := (List.getElem?_eq_some_iff.1 hy).1; have := HH.out.1; omega) hy).symm, hke⟩

set_option maxHeartbeats 1000000 in
theorem deleteFunc_left {α : Type} (d : Kd α) (hsz : d.sz = 4) (p : α → Bool) (v : Value) (xs : List α) (w : World) (G : Nat → Prop) (h : TW d 80 w G v xs) (hG : ∀ k, G k → k < w.heap.size)
    (HP : Hid (∀ W x cs, Kept (fun k => v.ownBlock = some k) w W → d.K W (fun k => v.ownBlock = some k ∨ G k) x cs → Calls Try.prog 67 #[.agg cs.toArray] W fun e w' => e = .returned (.bool (p x)) ∧ Kept No W w')) :
    Calls Try.prog 65 #[v, .func (.func 67) #[] #[]] w fun e w' => ∃ v', e = .returned v' ∧ TW d 80 w' G v' (xs.filter fun x => !p x) ∧ (v'.ownBlock = v.ownBlock) ∧ Kept (fun k => v.ownBlock = some k) w w' := by
  have hI := indexFunc_left d hsz p v xs w _ h.sl (show Hid _ from fun W x cs hk => HP.out W x cs (hk.mono fun _ _ h => h.elim))
  have hS := h
  cases hf : xs.findIdx? p with
  | none =>
    have hi : idxP p xs = -1 := by rw [idxP, hf]
    have hfil : (xs.filter fun x => !p x) = xs := by
      rw [List.filter_eq_self]
      intro x hx
      rw [List.findIdx?_eq_none_iff] at hf
      simp [hf x hx]
    rw [hi] at hI
    rw [hfil]
    obtain ⟨A, c, rfl, _⟩ := h.slice
    clear hf hi hfil hS
    have HH : Hid (TW d 80 w G (.slice A xs.length c) xs) := h
    clear h
    go_enter Try.func65, Try.ntmps65
    go_wp2_with (go_at_call 79; ((with_reducible refine hI.mono ?_); rintro e w2 ⟨rfl, hk2⟩))
    go_ret
    exact ⟨_, rfl, HH.out.new hk2, rfl, hk2.no⟩
  | some i =>
    have hi : idxP p xs = i := by rw [idxP, hf]
    rw [hi] at hI
    obtain ⟨hilt, hpi, hno⟩ := List.findIdx?_eq_some_iff_getElem.1 hf
    have hpre : (xs.take (i + 1)).filter (fun x => !p x) = xs.take i := by
      rw [filter_take_snoc _ xs i _ (List.getElem?_eq_getElem hilt), hpi]
      simp only [Bool.not_true, Bool.false_eq_true, if_false, List.append_nil]
      rw [List.filter_eq_self]
      intro x hx
      obtain ⟨j, hj⟩ := List.mem_iff_getElem?.1 hx
      rw [List.getElem?_take] at hj
      split at hj
      · rename_i hji
        obtain ⟨hl, he⟩ := List.getElem?_eq_some_iff.1 hj
        have := hno j hji
        rw [he] at this
        simpa using this
      · cases hj
    obtain ⟨x0, hx0⟩ : ∃ x, xs[i]? = some x := ⟨_, List.getElem?_eq_getElem hilt⟩
    have hst : (xs.take (i + 1)).filter (fun x => !p x) ++ [x0] ++ xs.drop (i + 1) = xs ∧ ((xs.take (i + 1)).filter (fun x => !p x)).length = i := by
      rw [hpre]
      refine ⟨?_, by rw [List.length_take]; omega⟩
      obtain ⟨hl, he⟩ := List.getElem?_eq_some_iff.1 hx0
      rw [List.append_assoc, List.singleton_append, ← he, List.getElem_cons_drop, List.take_append_drop]
    obtain ⟨n, hn⟩ : ∃ n, n = xs.length := ⟨_, rfl⟩
    have hsh : ∃ g off c, v = .slice (some ⟨g, off, none⟩) n c ∧ n ≤ c ∧ c ≤ 9223372036854775807 := by
      obtain ⟨cs, h1, _⟩ := h
      rcases h1.2 with ⟨_, h0⟩ | ⟨g, off, cap, cur, hv, _, h3, h4, _⟩
      · omega
      · exact ⟨g, off, cap, by rw [hv, hn], by omega, by simpa only [maxLen] using h4⟩
    obtain ⟨g, off, c, rfl, hnc, hcm⟩ := hsh
    have hi2 : i < n := by omega
    have hown : (Value.slice (some ⟨g, off, none⟩) n c).ownBlock = some g := rfl
    simp only [hown, Option.some.injEq] at HP ⊢
    have HH : Hid (n = xs.length ∧ TW d 80 w G (.slice (some ⟨g, off, none⟩) n c) xs ∧ ((xs.take (i + 1)).filter (fun x => !p x) ++ [x0] ++ xs.drop (i + 1) = xs ∧ ((xs.take (i + 1)).filter (fun x => !p x)).length = i) ∧ ¬ G g ∧ ∀ k, G k → k < w.heap.size) := ⟨hn, h, hst, by obtain ⟨cs, _, _, h3⟩ := h; exact h3 g rfl, hG⟩
    clear hf hi hpre hS hilt hpi hno hn h hown hG hst hx0
    have hne1 : ((i : Int) == -1) = false := by rw [beq_eq_false_iff_ne]; omega
    go_enter Try.func65, Try.ntmps65
    go_wp2_with (go_at_call 79; ((with_reducible refine hI.mono ?_); rintro e w2 ⟨rfl, hk2⟩))
    go_loopw [5, 6] (fun a b wr => ∃ i j : Nat, ∃ zs, i < j ∧ j ≤ n ∧ a = .int .i64 i ∧ b = .int .i64 j ∧ ((xs.take j).filter fun x => !p x).length = i ∧ i + zs.length = j ∧
      TW d 80 wr G (.slice (some ⟨g, off, none⟩) n c) ((xs.take j).filter (fun x => !p x) ++ zs ++ xs.drop j) ∧ Kept (fun k => g = k) w wr) (fun _ b _ => n - (intOf b).toNat)
    case atStart =>
      exact ⟨i, i + 1, [x0], by omega, by omega, rfl, by go_num, HH.out.2.2.1.2, by simp, (congrArg (TW d 80 w2 G (.slice (some ⟨g, off, none⟩) n c)) HH.out.2.2.1.1).mpr (HH.out.2.1.new hk2), hk2.no⟩
    case round =>
      obtain ⟨i, j, zs, hij, hjn, rfl, rfl, hfl, hzl, htw, hke⟩ := hrel
      have hle : i ≤ n := by omega
      have HZ : Hid (((xs.take j).filter fun x => !p x).length = i ∧ i + zs.length = j ∧ TW d 80 wr G (.slice (some ⟨g, off, none⟩) n c) ((xs.take j).filter (fun x => !p x) ++ zs ++ xs.drop j) ∧ Kept (fun k => g = k) w wr) := ⟨hfl, hzl, htw, hke⟩
      clear hfl hzl htw hke
      by_cases hlt : j < n
      · obtain ⟨x, hx⟩ : ∃ x, xs[j]? = some x := ⟨_, List.getElem?_eq_getElem (by rw [← HH.out.1]; exact hlt)⟩
        obtain ⟨ys, hys⟩ : ∃ ys, ys = (xs.take j).filter (fun x => !p x) ++ zs ++ xs.drop j := ⟨_, rfl⟩
        have hdrop : xs.drop j = x :: xs.drop (j + 1) := by
          obtain ⟨hl, he⟩ := List.getElem?_eq_some_iff.1 hx
          rw [← he, List.getElem_cons_drop]
        have hyl : ys.length = n := by rw [hys, List.length_append, List.length_append, HZ.out.1, List.length_drop, ← HH.out.1]; have := HZ.out.2.1; omega
        have hyj : ys[j]? = some x := by
          rw [hys, hdrop, List.getElem?_append_right (by rw [List.length_append, HZ.out.1]; have := HZ.out.2.1; omega), List.length_append, HZ.out.1, HZ.out.2.1, Nat.sub_self]
          rfl
        have htw := HZ.out.2.2.1
        rw [← hys] at htw
        obtain ⟨cs, hK, hcell⟩ : ∃ cs, d.K wr G x cs ∧ ∀ i' u, cs[i']? = some u → wr.cell? ⟨g, off + j * 4 + i', none⟩ = some u := by
          obtain ⟨yc, hw, hr, _⟩ := htw
          obtain ⟨cs, hK, hc⟩ := hr.get hyj
          rw [hyl] at hw
          exact ⟨cs, hK, fun i' u hu => by rw [Nat.add_assoc]; exact hw.cell _ u (by rw [← hsz]; exact hc i' u hu)⟩
        have hcl : cs.length = 4 := by rw [d.len hK, hsz]
        have h1c := d.one hK
        have hA : Agg Try.prog 80 cs.length := by rw [hcl]; exact dagg_left
        have HC : Hid (∀ i' u, cs[i']? = some u → wr.cell? ⟨g, off + j * 4 + i', none⟩ = some u) := hcell
        have hka : Kept (fun k => g = k) w (wr.alloc (.cells cs.toArray 80)) := HZ.out.2.2.2.alloc _
        have hcall := HP.out (wr.alloc (.cells cs.toArray 80)) x cs hka (d.mono (fun k hk _ => .inr hk) (d.move (fun k _ hk => Below.heap_alloc _ _ _ hk) hK))
        have HC2 : Hid (∀ W, Kept No (wr.alloc (.cells cs.toArray 80)) W → ∀ i' u, cs[i']? = some u → W.cell? ⟨wr.heap.size, 0 + i', none⟩ = some u) := fun W hW i' u hu =>
          hW.cell (by rw [Nat.zero_add, World.cell?_alloc_new]; simpa using hu) id
        have HX : Hid (ys.length = n ∧ TW d 80 wr G (.slice (some ⟨g, off, none⟩) n c) ys ∧ d.K wr G x cs ∧ ys = (xs.take j).filter (fun x => !p x) ++ zs ++ xs.drop j ∧ xs.drop j = x :: xs.drop (j + 1) ∧ xs[j]? = some x) := ⟨hyl, htw, hK, hys, hdrop, hx⟩
        obtain ⟨bv, hbv⟩ : ∃ bv, bv = p x := ⟨_, rfl⟩
        rw [← hbv] at hcall
        have HB : Hid (bv = p x) := hbv
        clear hbv hK hcell htw hyl hyj hys hdrop hka hx
        have HL : Hid (cs.length = 4 ∧ (∀ u ∈ cs, u.oneCell' = true)) := ⟨hcl, h1c⟩
        clear hcl h1c
        cases bv
        · have HS : Hid (∀ w3, Kept No wr w3 → ∃ cur, w3.heap[g]? = some (.cells cur 80 (0, 0)) ∧ off + i * 4 + cs.length ≤ cur.size ∧
              TW d 80 (w3.setRow g (cur.toList.take (off + i * 4) ++ cs ++ cur.toList.drop (off + i * 4 + cs.length)).toArray) G (.slice (some ⟨g, off, none⟩) n c) (ys.set i x)) := fun w3 hk3 => by
            have h := (HX.out.2.1.new hk3).set HX.out.1 (show i < n by omega) (d.move (fun k _ hk => hk3.block k hk id) HX.out.2.2.1)
            rw [hsz] at h
            exact h
          go_wp2_with (first | (with_reducible refine wpList_load_whole rfl (.tmp 24) 80 rfl g (off + j * 4) rfl cs hA HC.out ?_) | (with_reducible refine wpList_store_new rfl (.tmp 7) (.tmp 25) 80 rfl 80 rfl cs rfl hA _ (by simp [HL.out.1]) HL.out.2 ?_) | (with_reducible refine wpList_load_whole rfl (.tmp 7) 80 rfl wr.heap.size 0 rfl cs hA HC3.out ?_) | (with_reducible refine wpList_load_whole rfl (.tmp 7) 80 rfl wr.heap.size 0 rfl cs hA (HC2.out _ (Kept.refl _ _)) ?_) | (with_reducible refine wpList_store_whole rfl (.tmp 33) (.tmp 32) 80 rfl g (off + i * 4) 80 rfl cs rfl hA cur HG3.out.1 HG3.out.2.1 HL.out.2 ?_; intro w4 HW4) | (go_at_call 67; ((with_reducible refine hcall.mono ?_); rintro e w3 ⟨rfl, hk3⟩; have HC3 : Hid (∀ i' u, cs[i']? = some u → w3.cell? ⟨wr.heap.size, 0 + i', none⟩ = some u) := HC2.out w3 hk3; have HK3 : Hid (Kept No wr w3) := ((Kept.refl _ _).alloc _).trans hk3; obtain ⟨cur, hg3⟩ := HS.out w3 HK3.out; have HG3 : Hid (w3.heap[g]? = some (.cells cur 80 (0, 0)) ∧ off + i * 4 + cs.length ≤ cur.size ∧ TW d 80 (w3.setRow g (cur.toList.take (off + i * 4) ++ cs ++ cur.toList.drop (off + i * 4 + cs.length)).toArray) G (.slice (some ⟨g, off, none⟩) n c) (ys.set i x)) := hg3; clear hk3 hg3)))
          have hfn : (xs.take (j + 1)).filter (fun x => !p x) = (xs.take j).filter (fun x => !p x) ++ [x] := by
            rw [filter_take_snoc _ xs j x HX.out.2.2.2.2.2, ← HB.out]; rfl
          have hyset : ys.set i x = (xs.take (j + 1)).filter (fun x => !p x) ++ (zs.tail ++ [x]) ++ xs.drop (j + 1) := by
            have h := set_mid ((xs.take j).filter (fun x => !p x)) zs (xs.drop (j + 1)) x (by have := HZ.out.2.1; omega)
            rw [HZ.out.1, ← HX.out.2.2.2.2.1, ← HX.out.2.2.2.1] at h
            rw [h, hfn]
          have hT := HG3.out.2.2
          rw [hyset, ← HW4.out] at hT
          have hkF := HZ.out.2.2.2.trans (HK3.out.no.setRow (fun _ => rfl) ((cur.toList.take (off + i * 4) ++ cs ++ cur.toList.drop (off + i * 4 + cs.length)).toArray))
          rw [← HW4.out] at hkF
          have hlen : ((xs.take (j + 1)).filter fun x => !p x).length = i + 1 := by rw [hfn, List.length_append, HZ.out.1]; rfl
          have hzz : i + 1 + (zs.tail ++ [x]).length = j + 1 := by rw [List.length_append, List.length_tail]; have := HZ.out.2.1; simp; omega
          have HQ : Hid (((xs.take (j + 1)).filter fun x => !p x).length = i + 1 ∧ i + 1 + (zs.tail ++ [x]).length = j + 1) := ⟨hlen, hzz⟩
          clear hyset hfn hlen hzz
          go_roundw
          case rel => exact ⟨i + 1, j + 1, zs.tail ++ [x], by omega, by omega, by go_num, by go_num, HQ.out.1, HQ.out.2, hT, hkF⟩
          case measure => simp [intOf]; omega
        · go_wp2_with (first | (with_reducible refine wpList_load_whole rfl (.tmp 24) 80 rfl g (off + j * 4) rfl cs hA HC.out ?_) | (with_reducible refine wpList_store_new rfl (.tmp 7) (.tmp 25) 80 rfl 80 rfl cs rfl hA _ (by simp [HL.out.1]) HL.out.2 ?_) | (with_reducible refine wpList_load_whole rfl (.tmp 7) 80 rfl wr.heap.size 0 rfl cs hA (HC2.out _ (Kept.refl _ _)) ?_) | (go_at_call 67; ((with_reducible refine hcall.mono ?_); rintro e w3 ⟨rfl, hk3⟩; have HK3 : Hid (Kept No wr w3) := ((Kept.refl _ _).alloc _).trans hk3; clear hk3)))
          have hfn : (xs.take (j + 1)).filter (fun x => !p x) = (xs.take j).filter (fun x => !p x) := by
            rw [filter_take_snoc _ xs j x HX.out.2.2.2.2.2, ← HB.out]; simp
          have hT := HX.out.2.1.new HK3.out
          have hye : ys = (xs.take (j + 1)).filter (fun x => !p x) ++ (zs ++ [x]) ++ xs.drop (j + 1) := by
            rw [HX.out.2.2.2.1, hfn, HX.out.2.2.2.2.1]; simp
          rw [hye] at hT
          have hkF := HZ.out.2.2.2.trans HK3.out.no
          have hlen : ((xs.take (j + 1)).filter fun x => !p x).length = i := by rw [hfn]; exact HZ.out.1
          have hzz : i + (zs ++ [x]).length = j + 1 := by rw [List.length_append]; have := HZ.out.2.1; simp; omega
          have HQ : Hid (((xs.take (j + 1)).filter fun x => !p x).length = i ∧ i + (zs ++ [x]).length = j + 1) := ⟨hlen, hzz⟩
          clear hye hfn hlen hzz
          go_roundw
          case rel => exact ⟨i, j + 1, zs ++ [x], by omega, by omega, rfl, by go_num, HQ.out.1, HQ.out.2, hT, hkF⟩
          case measure => simp [intOf]; omega
      · have hj : j = n := by omega
        subst hj
        obtain ⟨ys, hys⟩ : ∃ ys, ys = (xs.take j).filter (fun x => !p x) ++ zs ++ xs.drop j := ⟨_, rfl⟩
        have hyl : ys.length = j := by rw [hys, List.length_append, List.length_append, HZ.out.1, List.length_drop, ← HH.out.1]; have := HZ.out.2.1; omega
        have hyt : ys.take i = xs.filter (fun x => !p x) := by
          rw [hys, List.append_assoc, List.take_append_of_le_length (by rw [HZ.out.1]; exact Nat.le_refl _), List.take_of_length_le (by rw [HZ.out.1]; exact Nat.le_refl _), List.take_of_length_le (by rw [← HH.out.1]; exact Nat.le_refl _)]
        have htw := HZ.out.2.2.1
        rw [← hys] at htw
        obtain ⟨yc, hw, hr, hg⟩ := htw
        rw [hyl, hsz] at hw
        have HW : Hid (Win wr 80 4 (.slice (some ⟨g, off, none⟩) j c) j yc ∧ Reps (d.K wr G) d.sz ys yc ∧ ¬ G g ∧ ys.take i = xs.filter (fun x => !p x) ∧ ys.length = j) := ⟨hw, hr, hg g rfl, hyt, hyl⟩
        clear hw hr hg hyt hyl hys
        by_cases hci : c = i
        · have hji : j = i := by omega
          subst hci
          subst hji
          go_wp2_with (with_reducible refine wpList_clear_win rfl (.tmp 38) 76 80 rfl (.agg #[.int .u64 0,.slice none 0 0,.slice none 0 0,.bool false]) 4 64 Try.underlying76 dinfo_left rfl (by decide) g off j j j yc _ 0 _ (Nat.sub_self j).symm rfl (fun h => absurd h (Nat.lt_irrefl _)) HW.out.1 hle ?_)
          intro w' xs' hk' hw' ht'
          have HE : Hid (Kept (fun k => k = g) wr w' ∧ Win w' 80 4 (.slice (some ⟨g, off, none⟩) j j) j xs' ∧ xs'.take (j * 4) = yc.take (j * 4)) := ⟨hk', hw', ht'⟩
          clear hk' hw' ht'
          go_wp2
          go_ret
          have hT := del_end (d := d) (i := j) (by rw [hsz]; exact HW.out.1) HW.out.2.1 HW.out.2.2.1 HW.out.2.2.2.2 HE.out.1 (by rw [hsz]; exact HE.out.2.1) (by rw [hsz]; exact HE.out.2.2) hle
          rw [HW.out.2.2.2.1] at hT
          exact ⟨_, rfl, hT, rfl, HZ.out.2.2.2.trans (HE.out.1.mono fun _ _ e => e.symm)⟩
        · go_wp2_with (with_reducible refine wpList_clear_win rfl (.tmp 38) 76 80 rfl (.agg #[.int .u64 0,.slice none 0 0,.slice none 0 0,.bool false]) 4 64 Try.underlying76 dinfo_left rfl (by decide) g off j c i yc _ (j - i) _ rfl rfl (fun _ => rfl) HW.out.1 hle ?_)
          intro w' xs' hk' hw' ht'
          have HE : Hid (Kept (fun k => k = g) wr w' ∧ Win w' 80 4 (.slice (some ⟨g, off, none⟩) j c) j xs' ∧ xs'.take (i * 4) = yc.take (i * 4)) := ⟨hk', hw', ht'⟩
          clear hk' hw' ht'
          go_wp2
          go_ret
          have hT := del_end (d := d) (i := i) (by rw [hsz]; exact HW.out.1) HW.out.2.1 HW.out.2.2.1 HW.out.2.2.2.2 HE.out.1 (by rw [hsz]; exact HE.out.2.1) (by rw [hsz]; exact HE.out.2.2) hle
          rw [HW.out.2.2.2.1] at hT
          exact ⟨_, rfl, hT, rfl, HZ.out.2.2.2.trans (HE.out.1.mono fun _ _ e => e.symm)⟩
end Go.Proofs.Ytfnecdkfhackkaa
