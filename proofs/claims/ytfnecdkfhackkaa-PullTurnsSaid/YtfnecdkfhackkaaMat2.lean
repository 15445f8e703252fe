/- The package matrix, second part: Tell wherever, Gone, Inst, Done, Held. -/
import Derived.Test.YtfnecdkfhackkaaMat1
set_option linter.unusedVariables false
set_option linter.unusedSimpArgs false
namespace Go.Proofs.Ytfnecdkfhackkaa
open Go.RowKit

theorem tell_none (mp : Value) (p inst : Int) (vd vh : Value) (w : World) (hof : Calls Try.prog 45 #[mp, .int .i64 p] w fun e w' => e = .returned (.pointer none) ∧ w = w') :
    Calls Try.prog 16 #[mp, .int .i64 p, .int .u64 inst, vd, vh] w fun e w' => e = .returned (.tuple #[]) ∧ w = w' := by
  go_enter Try.func16, Try.ntmps16
  go_wp2_with (go_at_call 45; ((with_reducible refine hof.mono ?_); rintro e w' ⟨rfl, rfl⟩))
  go_end0
  exact ⟨rfl, rfl⟩

theorem tell_any {b rb n : Nat} {rows : List Row} {G F : Nat → Prop} (w : World) (h : MatAt w b rb n rows G) (p : Int) (inst : Int) (hi : InR .u64 inst) (vd vh : Value) (done held : List Int)
    (hd : Sl (kI .u64) w F vd done) (hh : Sl (kI .u64) w F vh held) (hF : ¬ F rb) (hld : done.length ≤ 17592186044415) (hlh : held.length ≤ 17592186044415) :
    Calls Try.prog 16 #[.pointer (some ⟨b, 0, none⟩), .int .i64 p, .int .u64 inst, vd, vh] w fun e w' => e = .returned (.tuple #[]) ∧
      MatAt w' b rb n (tell rows p inst done held) (fun k => G k ∨ New w w' k) ∧ Kept (fun k => k = rb) w w' := by
  have same : ∀ {e : Ending} {w' : World}, e = .returned (.tuple #[]) ∧ w = w' → tell rows p inst done held = rows →
      e = .returned (.tuple #[]) ∧ MatAt w' b rb n (tell rows p inst done held) (fun k => G k ∨ New w w' k) ∧ Kept (fun k => k = rb) w w' := by
    rintro e w' ⟨he, rfl⟩ ht
    refine ⟨he, ?_, Kept.refl _ _⟩
    rw [ht]
    have : (fun k => G k ∨ New w w k) = G := by funext k; simp [New]; omega
    rw [this]
    exact h
  by_cases hp : p < 0
  · exact (tell_none _ p inst vd vh w (of_neg p w h.c0 hp)).mono fun e w' h => same h (by simp [tell, hp])
  · obtain ⟨q, rfl⟩ : ∃ q : Nat, p = q := ⟨p.toNat, by omega⟩
    cases hr : rows[q]? with
    | none =>
      have hq : n ≤ q := by rw [← h.len]; exact List.getElem?_eq_none_iff.1 hr
      exact (tell_none _ q inst vd vh w (of_far q w h.c0 (by omega))).mono fun e w' h => same h (by simp [tell, hr])
    | some r =>
      have ht : tell rows q inst done held = rows.set q (tellRow r inst done held) := by simp [tell, hr]; omega
      rw [ht]
      exact tell_in w h q r hr inst hi vd vh done held hd hh hF hld hlh

/-- Of whom there is a row. -/
def rowAt (rows : List Row) (p : Int) : Option Row := if p < 0 then none else rows[p.toNat]?

theorem of_any {b rb n : Nat} {rows : List Row} {G : Nat → Prop} (w : World) (h : MatAt w b rb n rows G) (p : Int) :
    (rowAt rows p = none ∧ Calls Try.prog 45 #[.pointer (some ⟨b, 0, none⟩), .int .i64 p] w fun e w' => e = .returned (.pointer none) ∧ w = w') ∨
    (∃ (q : Nat) (r : Row), p = q ∧ q < n ∧ rows[q]? = some r ∧ rowAt rows p = some r ∧ Calls Try.prog 45 #[.pointer (some ⟨b, 0, none⟩), .int .i64 p] w fun e w' => e = .returned (.pointer (some ⟨rb, q * 4, none⟩)) ∧ w = w') := by
  by_cases hp : p < 0
  · exact .inl ⟨by simp [rowAt, hp], of_neg p w h.c0 hp⟩
  · obtain ⟨q, rfl⟩ : ∃ q : Nat, p = q := ⟨p.toNat, by omega⟩
    cases hr : rows[q]? with
    | none =>
      have hq : n ≤ q := by rw [← h.len]; exact List.getElem?_eq_none_iff.1 hr
      exact .inl ⟨by simp [rowAt, hr], of_far q w h.c0 (by omega)⟩
    | some r =>
      have hq : q < n := by rw [← h.len]; exact (List.getElem?_eq_some_iff.1 hr).1
      exact .inr ⟨q, r, rfl, hq, hr, by simp [rowAt, hr], of_in q w h.c0 hq h.le⟩

def instOf (rows : List Row) (p : Int) : Int := ((rowAt rows p).map Row.inst).getD 0
theorem inst_any {b rb n : Nat} {rows : List Row} {G : Nat → Prop} (w : World) (h : MatAt w b rb n rows G) (p : Int) :
    Calls Try.prog 21 #[.pointer (some ⟨b, 0, none⟩), .int .i64 p] w fun e w' => e = .returned (.int .u64 (instOf rows p)) ∧ w = w' := by
  rcases of_any w h p with ⟨hn, hof⟩ | ⟨q, r, rfl, hq, hr, hs, hof⟩
  · rw [instOf, hn]
    clear h hn
    go_enter Try.func21, Try.ntmps21
    go_wp2_with (go_at_call 45; ((with_reducible refine hof.mono ?_); rintro e w' ⟨rfl, rfl⟩))
    go_ret
    exact ⟨rfl, rfl⟩
  · obtain ⟨ud, uh, c0, c1, c2, c3, _⟩ := h.at_ hr
    rw [instOf, hs]
    clear h hs hr
    go_enter Try.func21, Try.ntmps21
    go_wp2_with (go_at_call 45; ((with_reducible refine hof.mono ?_); rintro e w' ⟨rfl, rfl⟩))
    go_ret
    exact ⟨rfl, rfl⟩
theorem inst_nil (p : Int) (w : World) : Calls Try.prog 21 #[.pointer none, .int .i64 p] w fun e w' => e = .returned (.int .u64 0) ∧ w = w' := by
  have hof := of_nil p w
  go_enter Try.func21, Try.ntmps21
  go_wp2_with (go_at_call 45; ((with_reducible refine hof.mono ?_); rintro e w' ⟨rfl, rfl⟩))
  go_ret
  exact ⟨rfl, rfl⟩

def doneOf (rows : List Row) (p : Int) : List Int := ((rowAt rows p).map Row.done).getD []
theorem done_any {b rb n : Nat} {rows : List Row} {G : Nat → Prop} (w : World) (h : MatAt w b rb n rows G) (p : Int) :
    Calls Try.prog 22 #[.pointer (some ⟨b, 0, none⟩), .int .i64 p] w fun e w' => ∃ v', e = .returned v' ∧ Sl (kI .u64) w' (New w w') v' (doneOf rows p) ∧ Kept No w w' := by
  rcases of_any w h p with ⟨hn, hof⟩ | ⟨q, r, rfl, hq, hr, hs, hof⟩
  · rw [doneOf, hn]
    clear h hn
    go_enter Try.func22, Try.ntmps22
    go_wp2_with (go_at_call 45; ((with_reducible refine hof.mono ?_); rintro e w' ⟨rfl, rfl⟩))
    go_ret
    exact ⟨_, rfl, Sl.nil _ _ _, Kept.refl _ _⟩
  · obtain ⟨ud, uh, c0, c1, c2, c3, _, hsd, hsh⟩ := h.at_ hr
    rw [doneOf, hs]
    have hw := h.wide r (List.mem_of_getElem? hr)
    have hle := h.le
    have hCd := clone_u64 (kI .u64) rfl ud r.done w G hsd h.glt (by omega)
    have hCh := clone_u64 (kI .u64) rfl uh r.held w G hsh h.glt (by omega)
    clear h hs hr hsd hsh hw hle
    go_enter Try.func22, Try.ntmps22
    go_wp2_with (first | (go_at_call 45; ((with_reducible refine hof.mono ?_); rintro e w' ⟨rfl, rfl⟩)) | (go_at_call 50; first | ((with_reducible refine hCd.mono ?_); rintro e w' ⟨v', rfl, ht, hf, hk⟩) | ((with_reducible refine hCh.mono ?_); rintro e w' ⟨v', rfl, ht, hf, hk⟩)))
    go_ret
    exact ⟨_, rfl, ht.ints.slNew hf, hk⟩
def heldOf (rows : List Row) (p : Int) : List Int := ((rowAt rows p).map Row.held).getD []
theorem held_any {b rb n : Nat} {rows : List Row} {G : Nat → Prop} (w : World) (h : MatAt w b rb n rows G) (p : Int) :
    Calls Try.prog 23 #[.pointer (some ⟨b, 0, none⟩), .int .i64 p] w fun e w' => ∃ v', e = .returned v' ∧ Sl (kI .u64) w' (New w w') v' (heldOf rows p) ∧ Kept No w w' := by
  rcases of_any w h p with ⟨hn, hof⟩ | ⟨q, r, rfl, hq, hr, hs, hof⟩
  · rw [heldOf, hn]
    clear h hn
    go_enter Try.func23, Try.ntmps23
    go_wp2_with (go_at_call 45; ((with_reducible refine hof.mono ?_); rintro e w' ⟨rfl, rfl⟩))
    go_ret
    exact ⟨_, rfl, Sl.nil _ _ _, Kept.refl _ _⟩
  · obtain ⟨ud, uh, c0, c1, c2, c3, _, hsd, hsh⟩ := h.at_ hr
    rw [heldOf, hs]
    have hw := h.wide r (List.mem_of_getElem? hr)
    have hle := h.le
    have hCd := clone_u64 (kI .u64) rfl ud r.done w G hsd h.glt (by omega)
    have hCh := clone_u64 (kI .u64) rfl uh r.held w G hsh h.glt (by omega)
    clear h hs hr hsd hsh hw hle
    go_enter Try.func23, Try.ntmps23
    go_wp2_with (first | (go_at_call 45; ((with_reducible refine hof.mono ?_); rintro e w' ⟨rfl, rfl⟩)) | (go_at_call 50; first | ((with_reducible refine hCd.mono ?_); rintro e w' ⟨v', rfl, ht, hf, hk⟩) | ((with_reducible refine hCh.mono ?_); rintro e w' ⟨v', rfl, ht, hf, hk⟩)))
    go_ret
    exact ⟨_, rfl, ht.ints.slNew hf, hk⟩

/-- One process is gone, or not. -/
def gone1 (rows : List Row) (p : Int) : List Row := match rowAt rows p with
  | some r => rows.set p.toNat { r with gone := true }
  | none => rows
def gone1n (rows : List Row) (p : Int) : Int := match rowAt rows p with
  | some r => if r.gone then 0 else 1
  | none => 0
def goneF (rows : List Row) (l : List Int) : List Row × Int := l.foldl (fun s p => (gone1 s.1 p, s.2 + gone1n s.1 p)) (rows, 0)
theorem goneF_snoc (rows : List Row) (l : List Int) (p : Int) : goneF rows (l ++ [p]) = (gone1 (goneF rows l).1 p, (goneF rows l).2 + gone1n (goneF rows l).1 p) := by simp [goneF, List.foldl_append]

theorem MatAt.putGone {w : World} {G : Nat → Prop} {b rb n : Nat} {rows : List Row} (h : MatAt w b rb n rows G) {q : Nat} {r : Row} (hr : rows[q]? = some r) :
    MatAt (w.setCell ⟨rb, q * 4 + 3, none⟩ (.bool true)) b rb n (rows.set q { r with gone := true }) G := by
  have hq : q < n := by rw [← h.len]; exact (List.getElem?_eq_some_iff.1 hr).1
  obtain ⟨vd, vh, c0, c1, c2, c3, hi, hsd, hsh⟩ := h.at_ hr
  have hk : Kept (fun k => k = rb) w (w.setCell ⟨rb, q * 4 + 3, none⟩ (.bool true)) := (Kept.refl (fun k => k = rb) w).setCell (p := ⟨rb, q * 4 + 3, none⟩) (fun _ => rfl) _
  obtain ⟨cur, e0, hr0⟩ := h.row
  have hcs : cur.size = n * 4 := by have := hr0.1; rw [h.len] at this; simpa using this
  have e1 := heap_setCell_same w rb (q * 4 + 3) cur 80 (.bool true) e0
  rw [cell_of_row w rb _ _ _ _ e0] at c0 c1 c2
  have hmv : ∀ k, G k → k < w.heap.size → ¬ (fun k => k = rb) k := fun k hk _ e => h.gr (e ▸ hk)
  refine h.put hq (r' := { r with gone := true }) hk (fun _ h => h) h.gb h.gr (fun k hk => by have := h.glt k hk; simpa using this) e0 e1 (by simp) (fun i hi => ?_) ?_ (vd := vd) ?_ (vh := vh) ?_ ?_ hi (hsd.kept hk hmv) (hsh.kept hk hmv) (h.wide r (List.mem_of_getElem? hr))
  · rw [Array.getElem?_setIfInBounds_ne (by omega)]
  · rw [Array.getElem?_setIfInBounds_ne (by omega)]; exact c0
  · rw [Array.getElem?_setIfInBounds_ne (by omega)]; exact c1
  · rw [Array.getElem?_setIfInBounds_ne (by omega)]; exact c2
  · rw [Array.getElem?_setIfInBounds_self_of_lt (by rw [hcs]; omega)]

set_option maxHeartbeats 1000000 in
theorem gone_any {b rb n : Nat} {rows : List Row} {G F : Nat → Prop} (w : World) (h : MatAt w b rb n rows G) (v : Value) (l : List Int) (hl : Sl (kI .i64) w F v l) (hF : ¬ F rb) (hm : l.length ≤ 17592186044415) :
    Calls Try.prog 15 #[.pointer (some ⟨b, 0, none⟩), v] w fun e w' => e = .returned (.int .i64 (goneF rows l).2) ∧ MatAt w' b rb n (goneF rows l).1 G ∧ Kept (fun k => k = rb) w w' := by
  rcases hl.ints with ⟨rfl, A, c, rfl⟩ | ⟨h0, h1, bl, off, c, rfl, h2, h3, hbF, hb, hc⟩
  · have HH : Hid (MatAt w b rb n rows G) := h
    clear h hl
    go_enter Try.func15, Try.ntmps15
    go_wp2
    go_loop [5, 11] (fun t i => t = .int .i64 0 ∧ i = .int .i64 0) (fun _ _ => 0)
    case atStart => exact ⟨rfl, rfl⟩
    case round =>
      obtain ⟨rfl, rfl⟩ := hrel
      go_wp2
      go_ret
      exact ⟨rfl, HH.out, Kept.refl _ _⟩
  · obtain ⟨m, hm2⟩ : ∃ m, m = l.length := ⟨_, rfl⟩
    rw [← hm2] at h0 h1 h2 hm ⊢
    have HM : Hid (m = l.length ∧ MatAt w b rb n rows G ∧ ¬ F rb ∧ F bl ∧ ∀ j x, l[j]? = some x → w.cell? ⟨bl, off + j, none⟩ = some (.int .i64 x) ∧ InR .i64 x) := ⟨hm2, h, hF, hbF, hc⟩
    have hbnd : ∀ k, k ≤ m → 0 ≤ (goneF rows (l.take k)).2 ∧ (goneF rows (l.take k)).2 ≤ k := by
      intro k
      induction k with
      | zero => intro _; simp [goneF]
      | succ k ih =>
        intro hk
        have hx : l[k]? = some (l[k]'(by omega)) := List.getElem?_eq_getElem _
        rw [take_snoc _ _ _ hx, goneF_snoc]
        have := ih (by omega)
        have h4 : ∀ (rs : List Row) (p : Int), 0 ≤ gone1n rs p ∧ gone1n rs p ≤ 1 := by
          intro rs p
          unfold gone1n
          split
          · split <;> omega
          · omega
        have := h4 (goneF rows (l.take k)).1 l[k]
        simp only
        omega
    have HB : Hid (∀ k, k ≤ m → 0 ≤ (goneF rows (l.take k)).2 ∧ (goneF rows (l.take k)).2 ≤ k) := hbnd
    clear hm2 h hF hbF hc hl hbnd
    go_enter Try.func15, Try.ntmps15
    go_wp2
    go_loopw [5, 11] (fun t i wr => ∃ k : Nat, k ≤ m ∧ i = .int .i64 k ∧ t = .int .i64 (goneF rows (l.take k)).2 ∧ MatAt wr b rb n (goneF rows (l.take k)).1 G ∧ Kept (fun k => k = rb) w wr) (fun _ i _ => m - (intOf i).toNat)
    case atStart => exact ⟨0, Nat.zero_le _, rfl, rfl, HM.out.2.1, Kept.refl _ _⟩
    case round =>
      obtain ⟨k, hk, rfl, rfl, hmat, hke⟩ := hrel
      by_cases hlt : k < m
      · have hlk : k < l.length := by rw [← HM.out.1]; exact hlt
        obtain ⟨x, hx⟩ : ∃ x, l[k]? = some x := ⟨_, List.getElem?_eq_getElem hlk⟩
        have hcx : wr.cell? ⟨bl, off + k, none⟩ = some (.int .i64 x) := hke.cell (HM.out.2.2.2.2 k x hx).1 (fun e => by have := HM.out.2.2.1; have h6 := HM.out.2.2.2.1; simp only at e; rw [e] at h6; exact this h6)
        have hsn : goneF rows (l.take (k + 1)) = (gone1 (goneF rows (l.take k)).1 x, (goneF rows (l.take k)).2 + gone1n (goneF rows (l.take k)).1 x) := by rw [take_snoc _ _ _ hx, goneF_snoc]
        have hbd := HB.out k hk
        obtain ⟨S, hS⟩ : ∃ S, S = goneF rows (l.take k) := ⟨_, rfl⟩
        rw [← hS] at hmat hbd hsn ⊢
        rcases of_any wr hmat x with ⟨hn, hof⟩ | ⟨q, r, rfl, hq, hr, hs, hof⟩
        · have e1 : gone1 S.1 x = S.1 := by rw [gone1, hn]
          have e2 : gone1n S.1 x = 0 := by rw [gone1n, hn]
          rw [e1, e2] at hsn
          have HS : Hid (goneF rows (l.take (k + 1)) = (S.1, S.2 + 0) ∧ MatAt wr b rb n S.1 G ∧ Kept (fun k => k = rb) w wr) := ⟨hsn, hmat, hke⟩
          clear hsn hmat hke hS e1 e2 hn hx hlk
          go_wp2_with (go_at_call 45; ((with_reducible refine hof.mono ?_); rintro e w' ⟨rfl, rfl⟩))
          go_roundw
          case rel => exact ⟨k + 1, by omega, by go_num, by rw [HS.out.1]; go_num, by rw [HS.out.1]; exact HS.out.2.1, HS.out.2.2⟩
          case measure => simp [intOf]; omega
        · obtain ⟨ud, uh, c0, c1, c2, c3, _⟩ := hmat.at_ hr
          have hfr := hmat.fro (q * 4 + 3)
          cases hg : r.gone with
          | true =>
            have e1 : gone1 S.1 q = S.1.set q { r with gone := true } := by rw [gone1, hs]; rfl
            have e3 : S.1.set q { r with gone := true } = S.1 := by
              have : ({ r with gone := true } : Row) = r := by rw [← hg]
              rw [this]
              obtain ⟨hlq, hrq⟩ := List.getElem?_eq_some_iff.1 hr
              rw [← hrq]
              exact List.set_getElem_self hlq
            have e2 : gone1n S.1 q = 0 := by rw [gone1n, hs]; simp [hg]
            rw [e1, e2, e3] at hsn
            have HS : Hid (goneF rows (l.take (k + 1)) = (S.1, S.2 + 0) ∧ MatAt wr b rb n S.1 G ∧ Kept (fun k => k = rb) w wr) := ⟨hsn, hmat, hke⟩
            rw [hg] at c3
            clear hsn hmat hke hS e1 e2 e3 hs hr hx hlk hg
            go_wp2_with (go_at_call 45; ((with_reducible refine hof.mono ?_); rintro e w' ⟨rfl, rfl⟩))
            go_roundw
            case rel => exact ⟨k + 1, by omega, by go_num, by rw [HS.out.1]; go_num, by rw [HS.out.1]; exact HS.out.2.1, HS.out.2.2⟩
            case measure => simp [intOf]; omega
          | false =>
            have e1 : gone1 S.1 q = S.1.set q { r with gone := true } := by rw [gone1, hs]; rfl
            have e2 : gone1n S.1 q = 1 := by rw [gone1n, hs]; simp [hg]
            rw [e1, e2] at hsn
            have hmat2 := hmat.putGone hr
            have hke2 := hke.setCell (p := ⟨rb, q * 4 + 3, none⟩) (fun _ => rfl) (.bool true)
            have HS : Hid (goneF rows (l.take (k + 1)) = (S.1.set q { r with gone := true }, S.2 + 1) ∧ MatAt (wr.setCell ⟨rb, q * 4 + 3, none⟩ (.bool true)) b rb n (S.1.set q { r with gone := true }) G ∧ Kept (fun k => k = rb) w (wr.setCell ⟨rb, q * 4 + 3, none⟩ (.bool true))) := ⟨hsn, hmat2, hke2⟩
            rw [hg] at c3
            clear hsn hmat hke hS e1 e2 hs hr hx hlk hg hmat2 hke2
            go_wp2_with (go_at_call 45; ((with_reducible refine hof.mono ?_); rintro e w' ⟨rfl, rfl⟩))
            go_roundw
            case rel => exact ⟨k + 1, by omega, by go_num, by rw [HS.out.1], by rw [HS.out.1]; exact HS.out.2.1, HS.out.2.2⟩
            case measure => simp [intOf]; omega
      · go_wp2
        go_ret
        have : k = m := by omega
        subst this
        have e : l.take k = l := List.take_of_length_le (by rw [HM.out.1]; exact Nat.le_refl _)
        rw [e] at hmat ⊢
        exact ⟨rfl, hmat, hke⟩

end Go.Proofs.Ytfnecdkfhackkaa
