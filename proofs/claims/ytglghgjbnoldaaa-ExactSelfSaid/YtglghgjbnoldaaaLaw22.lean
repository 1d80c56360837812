/-
The statements of layer 22: their example, their items.
-/
import Derived.Test.YtglghgjbnoldaaaRankP
namespace Go.Proofs.Ytglghgjbnoldaaa
set_option linter.unusedVariables false
set_option linter.unusedSimpArgs false
open Go.RowKit

theorem slice_blk' {α : Type} {K : Kd α} {N : List Nat} {w : World} {b : Nat} {t : TypeId} {cs : List Value} {l : List α} (h : w.heap[b]? = some (.cells cs.toArray t)) (hb : b ∉ N) (hsz : K.sz = 1) (hl : cs.length = l.length) (hm : l.length ≤ maxLen)
    (he : ∀ (i : Nat) (x : α), l[i]? = some x → ∃ v, cs[i]? = some v ∧ K.At N w [v] x) : K.slice.At N w [.slice (some ⟨b, 0, none⟩) l.length l.length] l := by
  refine ⟨⟨some ⟨b, 0, none⟩, l.length, rfl, Nat.le_refl _, hm, fun i x hi => ?_⟩⟩
  obtain ⟨v, hv, hat⟩ := he i x hi
  refine ⟨b, 0, rfl, ⟨block_lt h, hb⟩, block_lt h, [v], hat.out, fun j u hj => ?_⟩
  cases j with
  | zero =>
    simp at hj
    subst hj
    rw [cell_of_block h, hsz]
    simpa using hv
  | succ j => simp at hj
theorem ints_blk' {k : IntKind} {N : List Nat} {w : World} {b : Nat} {t : TypeId} {l : List Int} (h : w.heap[b]? = some (.cells (l.map (Value.int k)).toArray t)) (hb : b ∉ N) (hm : l.length ≤ maxLen) (hw : ∀ x ∈ l, (Lit.int k x).wf = true) : (Kd.int k).slice.At N w [.slice (some ⟨b, 0, none⟩) l.length l.length] l :=
  slice_blk' h hb rfl (by simp) hm (fun i x hi => ⟨.int k x, by rw [List.getElem?_map, hi]; rfl, ⟨⟨rfl, hw x (List.mem_of_getElem? hi)⟩⟩⟩)
theorem rs_blk {N : List Nat} {w : World} {b : Nat} {t : TypeId} {l : List Rs} (h : w.heap[b]? = some (.cells (l.map rsE.enc).flatten.toArray t)) (hb : b ∉ N) (hm : l.length ≤ maxLen) (hw : ∀ x ∈ l, rsE.ok x) : rsE.kd.slice.At N w [.slice (some ⟨b, 0, none⟩) l.length l.length] l := by
  refine ⟨⟨some ⟨b, 0, none⟩, l.length, rfl, Nat.le_refl _, hm, fun i x hi => ?_⟩⟩
  refine ⟨b, 0, rfl, ⟨block_lt h, hb⟩, block_lt h, rsE.enc x, ⟨rfl, hw x (List.mem_of_getElem? hi)⟩, fun j u hj => ?_⟩
  rw [cell_of_block h]
  have := flatten_getElem (n := 2) (l.map rsE.enc) (fun cs hcs => by obtain ⟨y, _, rfl⟩ := List.mem_map.1 hcs; rfl) i j (rsE.enc x) u (by rw [List.getElem?_map, hi]; rfl) hj
  simpa [rsE, Flat.kd] using this

/-- Whether the statements take these items. -/
def someOk (dim : Int) (L : List (List Int)) : Bool := few10 L && decide (L.length ≤ 100) && decide (dataCheck dim L = 0)

theorem its_of {w : World} {B p : Nat} {dim : Int} {v : Value} {L : List (List Int)} (H : OwnItems w B p dim v L.flatten) (hc : dataCheck dim L = 0) (hL : L.length ≤ 1048576) : Its w [] p dim L := by
  obtain ⟨h1, h2, h3⟩ := dataCheck_ok hc
  exact ⟨H.is [] (by simp), h3, h1, h2, hL⟩

theorem some_calls (dim : Int) (lv : Value) (L : List (List Int)) (M : List Nat) (w : World) (h : (Kd.int .i32).slice.slice.At M w [lv] L) (hs : ∀ x ∈ L, x.length ≤ 70368744177664) :
    Calls Try.prog 9 #[.int .i64 dim, lv] w fun e w' => Below w.heap.size w w' ∧ ((someOk dim L = false ∧ e = .returned (.tuple #[.pointer none, .bool false])) ∨ (someOk dim L = true ∧ ∃ p, e = .returned (.tuple #[.pointer (some ⟨p, 0, none⟩), .bool true]) ∧ Its w' [] p dim L)) := by
  have HF := Lib.hid (few10_calls lv L M w h hs)
  have HC := Lib.hid (ref10_check_calls dim lv L M w h)
  have H := Lib.hid h
  obtain ⟨al, cl, rfl, _, _⟩ := Kd.slice_form h
  obtain ⟨f, hf⟩ : ∃ f, few10 L = f := ⟨_, rfl⟩
  obtain ⟨c, hc⟩ : ∃ c, dataCheck dim L = c := ⟨_, rfl⟩
  rw [hf] at HF
  rw [hc] at HC
  have hok : someOk dim L = (f && decide (L.length ≤ 100) && decide (c = 0)) := by unfold someOk; rw [hf, hc]
  rw [hok]
  have HCC := Lib.hid hc
  clear h hf hc hok
  cases f with
  | false =>
    go_enter Try.func9, Try.ntmps9
    go_wp2_with fail
    refine HF.out.mono ?_
    rintro e w1 ⟨rfl, rfl⟩
    go_wp2_with fail
    go_ret2
    exact ⟨Below.refl _ _, .inl ⟨rfl, rfl⟩⟩
  | true =>
    by_cases hl : 100 < L.length
    · have hl' : (100 : Int) < (L.length : Int) := by omega
      have hd : decide (L.length ≤ 100) = false := by simp; omega
      rw [hd]
      go_enter Try.func9, Try.ntmps9
      go_wp2_with fail
      refine HF.out.mono ?_
      rintro e w1 ⟨rfl, rfl⟩
      go_wp2_with fail
      go_ret2
      exact ⟨Below.refl _ _, .inl ⟨by simp, rfl⟩⟩
    · have hl' : ¬ (100 : Int) < (L.length : Int) := by omega
      have hd : decide (L.length ≤ 100) = true := by simp; omega
      rw [hd]
      by_cases hc0 : c = 0
      · have HO := Lib.hid (of_calls_ok dim _ L M w H.out (by rw [HCC.out]; exact hc0) (by omega))
        subst hc0
        have hl0 : L.length ≤ 1048576 := by omega
        go_enter Try.func9, Try.ntmps9
        go_wp2_with fail
        refine HF.out.mono ?_
        rintro e w1 ⟨rfl, rfl⟩
        go_wp2_with fail
        refine HC.out.mono ?_
        rintro e w1 ⟨rfl, rfl⟩
        go_wp2_with fail
        refine HO.out.mono ?_
        rintro e w4 ⟨p, rfl, hp4, ⟨v4, hown4⟩, hb4⟩
        have HIT := Lib.hid (its_of hown4 HCC.out hl0)
        have HB4 := Lib.hid hb4
        clear hown4 hb4 HO
        go_wp2_with fail
        go_ret2
        exact ⟨HB4.out, .inr ⟨by simp, p, rfl, HIT.out⟩⟩
      · have hcb : (c != 0) = true := by simpa using hc0
        have hcd : decide (c = 0) = false := by simpa using hc0
        rw [hcd]
        clear hc0
        go_enter Try.func9, Try.ntmps9
        go_wp2_with fail
        refine HF.out.mono ?_
        rintro e w1 ⟨rfl, rfl⟩
        go_wp2_with fail
        refine HC.out.mono ?_
        rintro e w1 ⟨rfl, rfl⟩
        go_wp2_with fail
        go_ret2
        exact ⟨Below.refl _ _, .inl ⟨by simp, rfl⟩⟩

theorem ex22 : (sort4 (resOf [[0], [5], [5]] [4] (uniq (idsN ([[0], [5], [5]] : List (List Int)).length)))).take (3 : Int).toNat = [⟨1, 1⟩, ⟨2, 1⟩, ⟨0, 16⟩] := by decide +kernel

set_option maxHeartbeats 4000000 in
set_option maxRecDepth 100000 in
theorem awake22_calls (w : World) : Calls Try.prog 8 #[] w fun e w' => e = .returned (.bool true) ∧ Below w.heap.size w w' := by
  obtain ⟨W1, hW1⟩ : ∃ W1, w.alloc (.cells #[.int .i32 0] 21) = W1 := ⟨_, rfl⟩
  obtain ⟨W2, hW2⟩ : ∃ W2, W1.alloc (.cells #[.int .i32 5] 21) = W2 := ⟨_, rfl⟩
  obtain ⟨W3, hW3⟩ : ∃ W3, W2.alloc (.cells #[.int .i32 5] 21) = W3 := ⟨_, rfl⟩
  obtain ⟨W4, hW4⟩ : ∃ W4, W3.alloc (.cells #[.slice (some ⟨w.heap.size, 0, none⟩) 1 1, .slice (some ⟨W1.heap.size, 0, none⟩) 1 1, .slice (some ⟨W2.heap.size, 0, none⟩) 1 1] 23) = W4 := ⟨_, rfl⟩
  have hu1 : Upd [] w W1 := by rw [← hW1]; exact Upd.alloc [] w _
  have hu2 : Upd [] W1 W2 := by rw [← hW2]; exact Upd.alloc [] W1 _
  have hu3 : Upd [] W2 W3 := by rw [← hW3]; exact Upd.alloc [] W2 _
  have hu4 : Upd [] W3 W4 := by rw [← hW4]; exact Upd.alloc [] W3 _
  have ha := upd_far (hu2.trans (hu3.trans hu4)) (show W1.heap[w.heap.size]? = some (.cells #[.int .i32 0] 21) by rw [← hW1]; exact Go.heap_alloc_new w _) (by simp)
  have hb := upd_far (hu3.trans hu4) (show W2.heap[W1.heap.size]? = some (.cells #[.int .i32 5] 21) by rw [← hW2]; exact Go.heap_alloc_new W1 _) (by simp)
  have hc := upd_far hu4 (show W3.heap[W2.heap.size]? = some (.cells #[.int .i32 5] 21) by rw [← hW3]; exact Go.heap_alloc_new W2 _) (by simp)
  have hd : W4.heap[W3.heap.size]? = some (.cells #[.slice (some ⟨w.heap.size, 0, none⟩) 1 1, .slice (some ⟨W1.heap.size, 0, none⟩) 1 1, .slice (some ⟨W2.heap.size, 0, none⟩) 1 1] 23) := by rw [← hW4]; exact Go.heap_alloc_new W3 _
  have HL := Lib.hid (slice_blk' (K := (Kd.int .i32).slice) (N := []) (l := [[0], [5], [5]]) (cs := [.slice (some ⟨w.heap.size, 0, none⟩) 1 1, .slice (some ⟨W1.heap.size, 0, none⟩) 1 1, .slice (some ⟨W2.heap.size, 0, none⟩) 1 1]) hd (by simp) rfl rfl (by decide) (fun i x hi => by
    match i, hi with
    | 0, hi => simp at hi; subst hi; exact ⟨_, rfl, ints_blk' (l := [0]) ha (by simp) (by decide) (by decide)⟩
    | 1, hi => simp at hi; subst hi; exact ⟨_, rfl, ints_blk' (l := [5]) hb (by simp) (by decide) (by decide)⟩
    | 2, hi => simp at hi; subst hi; exact ⟨_, rfl, ints_blk' (l := [5]) hc (by simp) (by decide) (by decide)⟩
    | i + 3, hi => simp at hi))
  have HB4 := Lib.hid ((hu1.trans (hu2.trans (hu3.trans hu4))).below)
  have HO := Lib.hid (of_calls_ok 1 _ [[0], [5], [5]] [] W4 HL.out (by decide +kernel) (by decide))
  clear ha hb hc hd hu1 hu2 hu3 hu4 HL
  go_enter Try.func8, Try.ntmps8
  go_wp2_with fail
  refine HO.out.mono ?_
  rintro e w5 ⟨p, rfl, hp5, ⟨v5, hown5⟩, hb5⟩
  have HB5 := Lib.hid (HB4.out.trans (hb5.mono HB4.out.size))
  have HI5 := its_of (L := [[0], [5], [5]]) hown5 (by decide +kernel) (by decide)
  obtain ⟨W6, hW6⟩ : ∃ W6, w5.alloc (.cells #[.int .i32 4] 21) = W6 := ⟨_, rfl⟩
  have hu6 : Upd [] w5 W6 := by rw [← hW6]; exact Upd.alloc [] w5 _
  have hv6 : W6.heap[w5.heap.size]? = some (.cells #[.int .i32 4] 21) := by rw [← hW6]; exact Go.heap_alloc_new w5 _
  have HBR := brute_ok W6 [] p 1 [[0], [5], [5]] 3 _ [4] (HI5.below hu6.below) (ints_blk' (k := .i32) (N := []) (l := [4]) hv6 (by simp) (by decide) (by decide)) (by decide +kernel) (by decide)
  have HBR := Lib.hid HBR
  have HB6 := Lib.hid (HB5.out.trans (hu6.below.mono HB5.out.size))
  clear hown5 hb5 hu6 hv6 HI5 HO hW1 hW2 hW3 hW4
  go_wp2_with fail
  refine HBR.out.mono ?_
  rintro e w7 ⟨v7, out, rfl, hr7, hch, hb7⟩
  have hout := hch.rank
  rw [ex22] at hout
  subst hout
  have HB7 := Lib.hid (HB6.out.trans (hb7.mono HB6.out.size))
  obtain ⟨W8, hW8⟩ : ∃ W8, w7.alloc (.cells #[.int .i64 1, .int .i64 1, .int .i64 2, .int .i64 1, .int .i64 0, .int .i64 16] 42) = W8 := ⟨_, rfl⟩
  have hu8 : Upd [] w7 W8 := by rw [← hW8]; exact Upd.alloc [] w7 _
  have hx8 : W8.heap[w7.heap.size]? = some (.cells #[.int .i64 1, .int .i64 1, .int .i64 2, .int .i64 1, .int .i64 0, .int .i64 16] 42) := by rw [← hW8]; exact Go.heap_alloc_new w7 _
  have HSM := same4_calls v7 _ [⟨1, 1⟩, ⟨2, 1⟩, ⟨0, 16⟩] [⟨1, 1⟩, ⟨2, 1⟩, ⟨0, 16⟩] [] W8 ((hr7.read (by simp)).below hu8.below) (rs_blk (l := [⟨1, 1⟩, ⟨2, 1⟩, ⟨0, 16⟩]) hx8 (by simp) (by decide) (by simp [rsE]; decide))
  rw [show decide (([⟨1, 1⟩, ⟨2, 1⟩, ⟨0, 16⟩] : List Rs) = [⟨1, 1⟩, ⟨2, 1⟩, ⟨0, 16⟩]) = true by simp] at HSM
  have HSM := Lib.hid HSM
  have HB8 := Lib.hid (HB7.out.trans (hu8.below.mono HB7.out.size))
  obtain ⟨a7, c7, rfl, _, _⟩ := row_form hr7
  clear hr7 hch hb7 hu8 hx8 HBR hW6
  go_wp2_with fail
  refine HSM.out.mono ?_
  rintro e w9 ⟨rfl, n9, rfl⟩
  go_wp2_with fail
  go_ret
  exact ⟨rfl, HB8.out.trans (bdN _ _ _)⟩

end Go.Proofs.Ytglghgjbnoldaaa
