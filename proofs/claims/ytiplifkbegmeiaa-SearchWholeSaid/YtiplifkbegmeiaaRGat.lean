/-
The document's Gather.
-/
import Derived.Test.YtiplifkbegmeiaaGath
namespace Go.Proofs.Ytiplifkbegmeiaa
set_option linter.unusedVariables false
set_option linter.unusedSimpArgs false
open Go.RowKit

theorem metAdd_ok (n : Nat) : ∀ (ids S : List Int), (S.Nodup ∧ ∀ x ∈ S, 0 ≤ x ∧ x < (n : Int)) → ((metAdd n S ids).Nodup ∧ ∀ x ∈ metAdd n S ids, 0 ≤ x ∧ x < (n : Int))
  | [], S, h => h
  | id :: ids, S, h => by
    unfold metAdd
    rw [List.foldl_cons]
    refine metAdd_ok n ids _ ?_
    split
    · rename_i ha
      unfold addsTo at ha
      have ha : 0 ≤ id ∧ id < (n : Int) ∧ id ∉ S := by simpa using ha
      refine ⟨?_, fun x hx => ?_⟩
      · rw [List.nodup_append]
        refine ⟨h.1, by simp, fun a h1 b h2 => ?_⟩
        simp at h2
        subst h2
        rintro rfl
        exact ha.2.2 h1
      · rcases List.mem_append.1 hx with hx | hx
        · exact h.2 x hx
        · simp at hx; subst hx; exact ⟨ha.1, ha.2.1⟩
    · exact h

theorem ref_step_one (N : List Nat) (q : Nat) (F : Fo) (dim : Int) (vL vT vv : Value) (v : List Int) (n : Nat) (limit : Int) (fin : St × List Int) (g : Nat) (S : List Int) (s : St) (w : World) (H : IsRW w N q F vL vT vv s)
    (hT : kNd.slice.slice.At N w [vT] F.T) (hvv : (Kd.int .i32).slice.At N w [vv] v) (hqN : q ∈ N) (hN : ∀ k, k ∈ N → k < w.heap.size) (ok : GInv F.T dim v n limit fin g s S) (hvb : Bd21 v) (h0 : 0 < s.tasks.length) :
    Calls Try.prog 19 #[.pointer (some ⟨q, 0, none⟩)] w fun e w' => ∃ ids vi b, ids = (outS F.T s).getD [] ∧ e = .returned (.tuple #[vi, .bool b, .bool true]) ∧ (Kd.int .i64).slice.At N w' [vi] ids ∧
      IsRW w' N q F vL vT vv (stepS F.T v s) ∧ Upd [q] w w' := by
  obtain ⟨trs, k1, k2⟩ := ok.ok
  have k3 := ok.steps
  have k4 := ok.next
  have k5 := ok.len
  refine (ref_step_some N q F dim vL vT vv v s trs w H hT hvv hqN hN k1 hvb h0 (by omega) (by omega) (by omega)).mono ?_
  rintro e w' ⟨a1, a2, ⟨ids, vi, b1, rfl, b3⟩ | ⟨b1, rfl⟩⟩
  · exact ⟨ids, vi, true, by rw [b1]; rfl, rfl, b3, a1, a2⟩
  · exact ⟨[], _, false, by rw [b1]; rfl, rfl, Kd.slice_nil _ _ _ _ _ (by decide), a1, a2⟩

set_option maxHeartbeats 8000000 in
set_option maxRecDepth 100000 in
theorem ref_gather_calls (vL vT vv : Value) (F : Fo) (v : List Int) (limit : Int) (w : World) (h : FoAt [] w vL vT F) (hv : (Kd.int .i32).slice.At [] w [vv] v)
    (hc : seaCheck F.L.length F.dim F.leaf F.depth F.T v = 0) (hl1 : 1 ≤ limit) (hl2 : limit ≤ 16777216) (hT : F.T.length ≤ 1048576) (hfl : F.T.flatten.length ≤ 1048576) (hn2 : F.L.length ≤ 1048576) :
    Calls Try.prog 15 #[.agg #[.int .i64 F.dim, .int .i64 F.leaf, .int .i64 F.depth, vL, vT], vv, .int .i64 limit] w fun e w' => ∃ v', e = .returned (.tuple #[v', .int .i64 ((gatherS F.T v F.L.length limit F.T.flatten.length (beginS F.T) []).1.steps : Int)]) ∧
      (Kd.int .i64).slice.At [] w' [v'] (setUpTo F.L.length (gatherS F.T v F.L.length limit F.T.flatten.length (beginS F.T) []).2) ∧ Below w.heap.size w w' := by
  obtain ⟨aL, cL, rfl, hlL, hcL⟩ := Kd.slice_form h.L
  obtain ⟨aT, cT, rfl, hlT, hcT⟩ := Kd.slice_form h.T
  obtain ⟨av, cv, rfl, hlv, hcv⟩ := Kd.slice_form hv
  unfold maxLen at hcL hcT hcv
  obtain ⟨W0, hW0⟩ : ∃ W0, w.alloc (foObj (.slice aL F.L.length cL) (.slice aT F.T.length cT) F) = W0 := ⟨_, rfl⟩
  have hu0 : Upd [] w W0 := by rw [← hW0]; exact Upd.alloc [] w _
  have hx0 : W0.heap[w.heap.size]? = some (foObj (.slice aL F.L.length cL) (.slice aT F.T.length cT) F) := by rw [← hW0]; exact Go.heap_alloc_new w _
  unfold foObj at hW0
  obtain ⟨d0, d1, d2, d3, d4⟩ := fo_cells hx0
  obtain ⟨hz1, hz2⟩ := sea_zero hc
  obtain ⟨hz3, _, _⟩ := lay_zero hz1
  have HINV := Lib.hid (GInv.start v limit hz3 hT hfl)
  have HVB := Lib.hid (Bd21.vec hz2).1
  have HBG := Lib.hid (ref_begin_calls _ _ _ F v [] W0 (h.below hu0.below) (hv.below hu0.below) hT)
  obtain ⟨FIN, hFIN⟩ : ∃ Z, gatherS F.T v F.L.length limit F.T.flatten.length (beginS F.T) [] = Z := ⟨_, rfl⟩
  rw [hFIN] at HINV ⊢
  obtain ⟨g0, hg0⟩ : ∃ g, F.T.flatten.length = g := ⟨_, rfl⟩
  rw [hg0] at HINV
  have HT := Lib.hid (h.T.below hu0.below)
  have HV := Lib.hid (hv.below hu0.below)
  have HU0 := Lib.hid hu0
  have HX0 := Lib.hid hx0
  clear h hv hu0 hx0 hc hz1 hz2 hz3 hFIN hg0 hT hfl
  go_enter Try.func15, Try.ntmps15
  go_wp2_with fail
  refine HBG.out.mono ?_
  rintro e w2 ⟨q, rfl, hw2, hq2, hb2⟩
  clear hW0 d0 d1 d2 d3 d4 HBG
  have HN2 := Lib.hid hn2
  clear hn2
  have hx2 := (hb2.block _ (block_lt HX0.out)).trans HX0.out
  obtain ⟨d0, d1, d2, d3, d4⟩ := fo_cells hx2
  have d3 : w2.cell? ⟨w.heap.size, 3, none⟩ = some (.slice aL F.L.length cL) := d3
  obtain ⟨W3, hW3⟩ : ∃ W3, w2.alloc (.cells #[.int .i64 (F.L.length : Int), .slice none 0 0] 82) = W3 := ⟨_, rfl⟩
  have hu3 : Upd [] w2 W3 := by rw [← hW3]; exact Upd.alloc [] w2 _
  have hr3 : W3.heap[w2.heap.size]? = some (.cells #[.int .i64 (F.L.length : Int), .slice none 0 0] 82) := by rw [← hW3]; exact Go.heap_alloc_new w2 _
  have hql := block_lt hw2.out.choose_spec.1
  have START : Hid (IsRW W3 [q, w2.heap.size] q F (.slice aL F.L.length cL) (.slice aT F.T.length cT) (.slice av v.length cv) (beginS F.T)) := Lib.hid (hw2.upd hu3 (by simp) (by simp) (fun k hk => by simp at hk ⊢; omega))
  have HR3 : Hid (IsRef W3 [q, w2.heap.size] w2.heap.size (F.L.length : Int) []) := Lib.hid ⟨_, hr3, Kd.slice_nil _ _ _ _ _ (by decide)⟩
  have HB3 : Hid (Below W0.heap.size W0 W3) := Lib.hid (hb2.trans (hu3.below.mono hb2.size))
  have hz2 := hb2.size
  have hz0 := HU0.out.size
  have HSZ3 : Hid (w2.heap.size < W3.heap.size) := Lib.hid (block_lt hr3)
  clear hb2 hx2 hw2 hu3 hr3 HX0
  go_wp2_with fail
  obtain ⟨sp, hsp⟩ : ∃ x, w2.heap.size = x := ⟨_, rfl⟩
  rw [hsp] at START HR3 HSZ3
  have hspB : W0.heap.size ≤ sp := by omega
  have hqsp : q < sp := by omega
  try rw [hsp]
  clear hW3 hsp
  go_loopg [] g0 (fun gk wr => ∃ (s : St) (S : List Int), Hid (GInv F.T F.dim v F.L.length limit FIN gk s S) ∧ Hid (IsRW wr [q, sp] q F (.slice aL F.L.length cL) (.slice aT F.T.length cT) (.slice av v.length cv) s) ∧ Hid (IsRef wr [q, sp] sp (F.L.length : Int) S) ∧ Hid (Below W0.heap.size W0 wr) ∧ Hid (sp < wr.heap.size) ∧ Hid (S.Nodup ∧ ∀ x ∈ S, 0 ≤ x ∧ x < (F.L.length : Int)))
  case atStart => exact ⟨_, _, HINV, START, HR3, HB3, HSZ3, Lib.hid ⟨List.nodup_nil, by simp⟩⟩
  case round =>
    obtain ⟨s, S, hinv, hw, href, hb, hsz, hS⟩ := hrel
    obtain ⟨vS, e1, e2⟩ := href.out.out
    obtain ⟨aS, cS, rfl, hcS1, hcS2⟩ := slice_form' e2
    unfold maxLen at hcS2
    have c1 : wr.cell? ⟨sp, 1, none⟩ = some (.slice aS S.length cS) := by rw [cell_of_block e1]; rfl
    have hSlen : S.length ≤ 1099511627776 := by
      have := nodup_len _ _ hS.out.1 hS.out.2
      have := HN2.out
      omega
    have TAIL : Hid ((limit ≤ (S.length : Int) ∨ s.tasks = []) → FIN = (s, S)) := Lib.hid hinv.out.stop
    have HUQ : Hid (∀ W, Upd [] wr W → Calls Try.prog 22 #[.slice aS S.length cS] W fun e w' => ∃ v', e = .returned v' ∧ Below W.heap.size W w' ∧ Row (Kd.int .i64) [] 3 W.heap.size w' v' (uniq S)) := Lib.hid (fun W hW =>
      ref_unique_calls _ S [q, sp] W (e2.upd hW (by simp) (fun k hk => .inl hk)) hSlen)
    have CBT : Hid (∀ W, Upd [] wr W → W.cell? ⟨sp, 1, none⟩ = some (.slice aS S.length cS) ∧ W.cell? ⟨q, 7, none⟩ = some (.int .i64 (s.steps : Int))) := Lib.hid (fun W hW => by
      obtain ⟨lv, k1, k2⟩ := (hw.out.upd hW (by simp) (by simp) (fun k hk => .inl hk) (N' := [q, sp])).out
      exact ⟨(hW.cell (block_lt e1) (by simp)).trans c1, (rwalk_cells k1).2.2.2.1⟩)
    have HUP : Hid (setUpTo F.L.length S = uniq S) := Lib.hid (setUpTo_uniq _ _ hS.out.2)
    have HBT : Hid (Below w.heap.size w wr) := Lib.hid (HU0.out.below.trans (hb.out.mono HU0.out.size))
    clear e1 e2
    by_cases hlt : (S.length : Int) < limit
    · by_cases h0 : s.tasks = []
      · have HST := Lib.hid (ref_step_none [q, sp] q F _ _ _ s wr hw.out h0)
        have HFIN := Lib.hid (TAIL.out (.inr h0))
        have ct7 := CBT.out wr (Upd.refl _ _)
        clear h0 hinv hw href hb hsz hS TAIL
        go_wp2_with fail
        refine HST.out.mono ?_
        rintro e wt ⟨rfl, rfl⟩
        go_wp2_with fail
        go_region_held3 (fun w' => w'.cell? ⟨sp, 1, none⟩ = some (.slice aS S.length cS) ∧ w'.cell? ⟨q, 7, none⟩ = some (.int .i64 (s.steps : Int)))
          (first | exact CBT.out _ HU7.out | exact CBT.out _ (Upd.drewN [] wr 1) | go_keep)
          (first
            | (go_at_call 22
               refine (HUQ.out _ (Upd.drewN [] wr _)).mono ?_
               rintro e w7 ⟨v7, rfl, hb7, hr7⟩
               have HU7 : Hid (Upd [] wr w7) := Lib.hid ((Upd.drewN [] wr 1).trans (Upd.ofBelow hb7 []))
               have HR7 := Lib.hid (hr7.read (M := []) (by simp))
               clear hb7 hr7))
        go_wp2_with fail
        go_ret2
        have hfin := HFIN.out
        subst hfin
        exact ⟨v7, rfl, by rw [HUP.out]; exact HR7.out, HBT.out.trans (HU7.out.below.mono HBT.out.size)⟩
      · have h0l : 0 < s.tasks.length := by
          cases hts : s.tasks with
          | nil => exact absurd hts h0
          | cons a b => simp
        have hnew : ∀ k, k ∈ [q, sp] → W0.heap.size ≤ k := fun k hk => by
          simp only [List.mem_cons, List.not_mem_nil, or_false] at hk
          omega
        have hN : ∀ k, k ∈ [q, sp] → k < wr.heap.size := fun k hk => by
          have := hsz.out
          simp only [List.mem_cons, List.not_mem_nil, or_false] at hk
          omega
        have HSO := Lib.hid (ref_step_one [q, sp] q F F.dim _ _ _ v F.L.length limit FIN gk S s wr hw.out
          (HT.out.upd (Upd.ofBelow hb.out []) (by simp) (fun k hk => .inr (hnew k hk))) (HV.out.upd (Upd.ofBelow hb.out []) (by simp) (fun k hk => .inr (hnew k hk))) (by simp) hN hinv.out HVB.out h0l)
        obtain ⟨g', hgk, hinv'⟩ := hinv.out.step HVB.out (by omega) h0l
        have HGK := Lib.hid hgk
        have HINV' := Lib.hid hinv'
        clear hnew hgk hinv' h0l h0
        go_wp2_with fail
        refine HSO.out.mono ?_
        rintro e w6 ⟨ids, vi, bl, hids, rfl, hat6, hw6, hu6⟩
        have HAT6 := Lib.hid hat6
        have HW6 := Lib.hid hw6
        have HIDS := Lib.hid hids
        have HREF6 : Hid (IsRef w6 [q, sp] sp (F.L.length : Int) S) := Lib.hid (href.out.upd hu6 (by simp) (by simp; omega))
        have HB6 : Hid (Below W0.heap.size W0 w6) := Lib.hid (hb.out.trans (hu6.belowB hb.out.size (by simp; omega)))
        have HSZ6 : Hid (sp < w6.heap.size) := Lib.hid (Nat.lt_of_lt_of_le hsz.out hu6.size)
        obtain ⟨ai, ci, rfl, _, hci⟩ := slice_form' hat6
        unfold maxLen at hci
        clear hat6 hw6 hids hu6 hinv hw href hb hsz HSO TAIL HUQ CBT HUP HBT hN c1
        go_wp2_with fail
        go_loopw [13] (fun i wr' => ∃ k : Nat, k ≤ ids.length ∧ i = .int .i64 k ∧ Hid (IsRef wr' [q, sp] sp (F.L.length : Int) (metAdd F.L.length S (ids.take k))) ∧ Hid (Upd [sp] w6 wr')) (fun i _ => ids.length - (intOf i).toNat)
        case atStart => exact ⟨0, Nat.zero_le _, rfl, HREF6, Lib.hid (Upd.refl _ _)⟩
        case round =>
          obtain ⟨k, hk, rfl, hs, hu⟩ := hrel
          by_cases hlt2 : k < ids.length
          · obtain ⟨x, hxk⟩ : ∃ x, ids[k]? = some x := ⟨_, List.getElem?_eq_getElem hlt2⟩
            obtain ⟨b, o, c, hvv, _, _, _, _, c0, hxw⟩ := ints_at (HAT6.out.upd hu.out (by simp) (fun k hk => .inl hk)) hxk
            simp at hvv
            obtain ⟨rfl, rfl⟩ := hvv
            have hi1 : (k : Int) < (ids.length : Int) := by omega
            have hi0 : (0 : Int) ≤ (k : Int) := by omega
            have hml := nodup_len _ _ (metAdd_ok F.L.length (ids.take k) S hS.out).1 (metAdd_ok F.L.length (ids.take k) S hS.out).2
            have hsz6 := HSZ6.out
            have hzu := hu.out.size
            have HADD := ref_set_add_calls sp (F.L.length : Int) (metAdd F.L.length S (ids.take k)) x [q, sp] _ hs.out (by simp; omega) (by simp) (by have := HN2.out; omega) hxw
            rw [Int.toNat_natCast] at HADD
            have HADD := Lib.hid HADD
            have HSN := Lib.hid (metAdd_snoc F.L.length S hxk)
            clear hxk hml hxw
            go_wp2_with fail
            refine HADD.out.mono ?_
            rintro e w7 ⟨rfl, hu7, hs7⟩
            have HU7 := Lib.hid (hu.out.trans hu7)
            have HS7 : Hid (IsRef w7 [q, sp] sp (F.L.length : Int) (metAdd F.L.length S (ids.take (k + 1)))) := Lib.hid (by rw [HSN.out]; exact hs7)
            clear hu7 hs7
            go_wp2_with fail
            go_roundw
            case rel => exact ⟨k + 1, by omega, by go_num, HS7, HU7⟩
            case measure => simp [intOf]; omega
          · have hkl : k = ids.length := by omega
            subst hkl
            rw [List.take_length] at hs
            go_wp2_with fail
            go_roundg g'
            case measure => have := HGK.out; omega
            case rel =>
              have hz6 := HSZ6.out
              have hz7 := hu.out.size
              exact ⟨stepS F.T v s, metOut F.T F.L.length s S, HINV', Lib.hid (HW6.out.upd hu.out (by simp) (by simp; omega) (fun k hk => .inl hk)), Lib.hid (by rw [metOut_eq, ← HIDS.out]; exact hs.out), Lib.hid (HB6.out.trans (hu.out.belowB HB6.out.size (by simp; omega))), Lib.hid (by omega), Lib.hid (by rw [metOut_eq]; exact metAdd_ok _ _ _ hS.out)⟩
    · have HFIN := Lib.hid (TAIL.out (.inl (by omega)))
      have ct7 := CBT.out wr (Upd.refl _ _)
      clear hinv hw href hb hsz hS TAIL
      go_wp2_with fail
      go_region_held3 (fun w' => w'.cell? ⟨sp, 1, none⟩ = some (.slice aS S.length cS) ∧ w'.cell? ⟨q, 7, none⟩ = some (.int .i64 (s.steps : Int)))
        (first | exact CBT.out _ HU7.out | exact CBT.out _ (Upd.drewN [] wr 1) | go_keep)
        (first
          | (go_at_call 22
             refine (HUQ.out _ (Upd.drewN [] wr _)).mono ?_
             rintro e w7 ⟨v7, rfl, hb7, hr7⟩
             have HU7 : Hid (Upd [] wr w7) := Lib.hid ((Upd.drewN [] wr 1).trans (Upd.ofBelow hb7 []))
             have HR7 := Lib.hid (hr7.read (M := []) (by simp))
             clear hb7 hr7))
      go_wp2_with fail
      go_ret2
      have hfin := HFIN.out
      subst hfin
      exact ⟨v7, rfl, by rw [HUP.out]; exact HR7.out, HBT.out.trans (HU7.out.below.mono HBT.out.size)⟩

end Go.Proofs.Ytiplifkbegmeiaa
