/-
The document's Write and Remove of files.
-/
import Derived.Test.YteafbhpjjibdeaaPut23
import Derived.Test.YteafbhpjjibdeaaFull
import Derived.Deep.RegionHeld3
namespace Go.Proofs.Yteafbhpjjibdeaa
set_option linter.unusedVariables false
set_option linter.unusedSimpArgs false
open Go.RowKit

attribute [local go_sem] Oper.semAt_some

def rwrite (R : List (ByteArray × ByteArray)) (n t : ByteArray) : List (ByteArray × ByteArray) × Int :=
  if (rfind R n).2 = 13 then (R, 13) else if 16 < (rput R (n, t)).length ∨ 16777216 < fsum (rput R (n, t)) then (R, 12) else (rput R (n, t), 0)
def rremove (R : List (ByteArray × ByteArray)) (n : ByteArray) : List (ByteArray × ByteArray) × Int :=
  if (rfind R n).2 = 0 then (sans R n, 0) else (R, (rfind R n).2)

theorem ref_write_calls (v : Value) (R : List (ByteArray × ByteArray)) (n t : ByteArray) (M : List Nat) (w : World) (h : kFile.slice.At M w [v] R) (hM : ∀ k, k ∈ M → k < w.heap.size) (hlen : R.length ≤ 1000) (hn : n.size ≤ maxLen) (ht : t.size ≤ maxLen) (hs : fsum (rput R (n, t)) ≤ 1099511627776) :
    Calls Try.prog 29 #[v, .string n, .string t] w fun e w' => ∃ v', e = .returned (.tuple #[v', .int .i64 (rwrite R n t).2]) ∧ Below w.heap.size w w' ∧ kFile.slice.At M w' [v'] (rwrite R n t).1 := by
  obtain ⟨ao, cap, rfl, hl, hcap⟩ := Kd.slice_form h
  unfold maxLen at hcap
  have HF := ref_find_calls _ R n M w h
  have HP := Lib.hid (ref_put_calls _ R n t M w h hlen hn ht)
  have HM := Lib.hid hM
  clear hM
  have H := Lib.hid h
  obtain ⟨k, e, hke⟩ : ∃ k e, rfind R n = (k, e) := ⟨_, _, rfl⟩
  rw [hke] at HF
  have HFF := Lib.hid HF
  clear HF h
  by_cases he : e = 13
  · have e1 : rwrite R n t = (R, 13) := by unfold rwrite; rw [hke, if_pos he]
    rw [e1]
    subst he
    clear hke e1
    go_enter Try.func29, Try.ntmps29
    go_wp2_with fail
    refine HFF.out.mono ?_
    rintro e w' ⟨rfl, rfl⟩
    go_wp2_with fail
    go_ret2
    exact ⟨_, rfl, Below.refl _ _, H.out⟩
  · have hb : (e == 13) = false := by simpa using he
    obtain ⟨N, hN⟩ : ∃ N, rput R (n, t) = N := ⟨_, rfl⟩
    have e1 : rwrite R n t = if 16 < N.length ∨ 16777216 < fsum N then (R, 12) else (N, 0) := by unfold rwrite; rw [hke, if_neg he, hN]
    rw [hN] at HP hs
    rw [e1]
    clear hke e1 he hN
    by_cases h16 : 16 < N.length
    · rw [if_pos (.inl h16)]
      have h16' : (16 : Int) < (N.length : Int) := by omega
      go_enter Try.func29, Try.ntmps29
      go_wp2_with fail
      refine HFF.out.mono ?_
      rintro e w' ⟨rfl, rfl⟩
      go_wp2_with fail
      refine HP.out.mono ?_
      rintro e w1 ⟨v1, rfl, hb1, hr1⟩
      obtain ⟨a1, c1, rfl, _, _⟩ := row_form hr1
      have HB := Lib.hid hb1
      have H1 := Lib.hid (H.out.below hb1)
      clear hb1 hr1
      go_wp2_with fail
      go_ret2
      exact ⟨_, rfl, HB.out, H1.out⟩
    · by_cases hbig : 16777216 < fsum N
      · rw [if_pos (.inr hbig)]
        have h16' : ¬ (16 : Int) < (N.length : Int) := by omega
        have hbig' : (16777216 : Int) < (fsum N : Int) := by omega
        go_enter Try.func29, Try.ntmps29
        go_wp2_with fail
        refine HFF.out.mono ?_
        rintro e w' ⟨rfl, rfl⟩
        go_wp2_with fail
        refine HP.out.mono ?_
        rintro e w1 ⟨v1, rfl, hb1, hr1⟩
        have HBY := Lib.hid (ref_bytes_calls _ N [] w1 (hr1.read (by simp)) hs)
        obtain ⟨a1, c1, rfl, _, _⟩ := row_form hr1
        have HB := Lib.hid hb1
        have H1 := Lib.hid (H.out.below hb1)
        clear hb1 hr1
        go_wp2_with fail
        refine HBY.out.mono ?_
        rintro e w2 ⟨rfl, rfl⟩
        go_wp2_with fail
        go_ret2
        exact ⟨_, rfl, HB.out, H1.out⟩
      · rw [if_neg (by rintro (h | h); exact h16 h; exact hbig h)]
        have h16' : ¬ (16 : Int) < (N.length : Int) := by omega
        have hbig' : ¬ (16777216 : Int) < (fsum N : Int) := by omega
        go_enter Try.func29, Try.ntmps29
        go_wp2_with fail
        refine HFF.out.mono ?_
        rintro e w' ⟨rfl, rfl⟩
        go_wp2_with fail
        refine HP.out.mono ?_
        rintro e w1 ⟨v1, rfl, hb1, hr1⟩
        have HBY := Lib.hid (ref_bytes_calls _ N [] w1 (hr1.read (by simp)) hs)
        have HR1 := Lib.hid ((hr1.file_upd (Upd.refl [] _) (by simp) (M' := M)).read (fun k hk hm => by have := (hr1.ob_lt k hk).1; have := HM.out k hm; omega))
        obtain ⟨a1, c1, rfl, _, _⟩ := row_form hr1
        have HB := Lib.hid hb1
        clear hb1 hr1
        go_wp2_with fail
        refine HBY.out.mono ?_
        rintro e w2 ⟨rfl, rfl⟩
        go_wp2_with fail
        go_ret2
        exact ⟨_, rfl, HB.out, HR1.out⟩

theorem ref_remove_calls (v : Value) (R : List (ByteArray × ByteArray)) (n : ByteArray) (M : List Nat) (w : World) (h : kFile.slice.At M w [v] R) (hM : ∀ k, k ∈ M → k < w.heap.size) (hlen : R.length ≤ 1000) :
    Calls Try.prog 31 #[v, .string n] w fun e w' => ∃ v', e = .returned (.tuple #[v', .int .i64 (rremove R n).2]) ∧ Below w.heap.size w w' ∧ kFile.slice.At M w' [v'] (rremove R n).1 := by
  obtain ⟨ao, cap, rfl, hl, hcap⟩ := Kd.slice_form h
  unfold maxLen at hcap
  have HF := ref_find_calls _ R n M w h
  have HP := Lib.hid (ref_without_calls _ R n M w h hlen)
  have HM := Lib.hid hM
  clear hM
  have H := Lib.hid h
  obtain ⟨k, e, hke⟩ : ∃ k e, rfind R n = (k, e) := ⟨_, _, rfl⟩
  rw [hke] at HF
  have HFF := Lib.hid HF
  clear HF h
  by_cases he : e = 0
  · have e1 : rremove R n = (sans R n, 0) := by unfold rremove; rw [hke, if_pos he]
    rw [e1]
    subst he
    clear hke e1
    go_enter Try.func31, Try.ntmps31
    go_wp2_with fail
    refine HFF.out.mono ?_
    rintro e w' ⟨rfl, rfl⟩
    go_wp2_with fail
    refine HP.out.mono ?_
    rintro e w1 ⟨v1, rfl, hb1, hr1⟩
    have HR1 := Lib.hid ((hr1.file_upd (Upd.refl [] _) (by simp) (M' := M)).read (fun k hk hm => by have := (hr1.ob_lt k hk).1; have := HM.out k hm; omega))
    have HB := Lib.hid hb1
    clear hb1 hr1
    go_wp2_with fail
    go_ret2
    exact ⟨_, rfl, HB.out, HR1.out⟩
  · have hb : (e != 0) = true := by simpa using he
    have e1 : rremove R n = (R, e) := by unfold rremove; rw [hke, if_neg he]
    rw [e1]
    clear hke e1 he
    go_enter Try.func31, Try.ntmps31
    go_wp2_with fail
    refine HFF.out.mono ?_
    rintro e w' ⟨rfl, rfl⟩
    go_wp2_with fail
    go_ret2
    exact ⟨_, rfl, Below.refl _ _, H.out⟩

/-- The document's spoilt text. -/
def rtext (s : ByteArray) (j : Nat) (by_ : Int) : ByteArray := s.extract 0 j ++ strOfNums [bits .xor .u8 ((s[j]?.getD 0).toNat : Int) by_] ++ s.extract (j + 1) s.size

set_option maxHeartbeats 8000000 in
set_option maxRecDepth 100000 in
theorem ref_spoil_core (v : Value) (R : List (ByteArray × ByteArray)) (n s : ByteArray) (k j : Nat) (by_ : Int) (M : List Nat) (w : World) (h : kFile.slice.At M w [v] R) (hM : ∀ k, k ∈ M → k < w.heap.size) (hlen : R.length ≤ 1000) (hn : n.size ≤ maxLen) (hf : rfind R n = (k, 0)) (hk : R[k]? = some (n, s)) (hj : j < s.size) (hs : s.size ≤ 1099511627776) (hb0 : 0 ≤ by_) (hb1 : by_ ≤ 255) :
    Calls Try.prog 33 #[v, .string n, .int .i64 j, .int .u8 by_] w fun e w' => ∃ v', e = .returned (.tuple #[v', .int .i64 0]) ∧ Below w.heap.size w w' ∧ kFile.slice.At M w' [v'] (rput R (n, rtext s j by_)) := by
  obtain ⟨ao, cap, rfl, hl, hcap⟩ := Kd.slice_form h
  unfold maxLen at hcap
  have HF := ref_find_calls _ R n M w h
  have HM := Lib.hid hM
  clear hM
  rw [hf] at HF
  have HFF := Lib.hid HF
  have H := Lib.hid h
  obtain ⟨b, o, c, hv, _, _, d0, d1, _⟩ := file_at h hk
  simp at hv
  obtain ⟨rfl, rfl⟩ := hv
  have hkl := (List.getElem?_eq_some_iff.1 hk).1
  have hk1 : (k : Int) < (R.length : Int) := by omega
  have hk0 : (0 : Int) ≤ (k : Int) := by omega
  have hj0 : (0 : Int) ≤ (j : Int) := by omega
  have hj1 : (j : Int) < (s.size : Int) := by omega
  have hj2 : (j : Int) ≤ (s.size : Int) := by omega
  have hj3 : (j : Int) + 1 ≤ (s.size : Int) := by omega
  have hj4 : (0 : Int) ≤ (j : Int) + 1 := by omega
  have hcv : ∀ (z : Int), (convert 67 9 (.slice (some ⟨w.heap.size, 0, none⟩) 1 1)).run Try.prog (w.alloc (.cells #[.int .u8 z] 5)).drew = .ok (.string (strOfNums [z])) (w.alloc (.cells #[.int .u8 z] 5)).drew := fun z =>
    byte_str z (w.alloc (.cells #[.int .u8 z] 5)).drew w.heap.size _ (Go.heap_alloc_new w _)
  have hwp : IntKind.i64.wrap ((j : Int) + 1) = (j : Int) + 1 := IntWalk.i64_in _ ⟨by omega, by omega⟩
  have hnat : ((j : Int) + 1).toNat = j + 1 := by omega
  have hx1 : (s.extract 0 j).size = j := by rw [ByteArray.size_extract]; omega
  have hx2 : ∀ z : Int, (strOfNums [z]).size = 1 := fun z => by rw [strOfNums_size]; rfl
  have hx3 : (s.extract (j + 1) s.size).size = s.size - (j + 1) := by rw [ByteArray.size_extract]; omega
  have hz1 : ¬ 9223372036854775807 < j + 1 := by omega
  have hz2 : ¬ 9223372036854775807 < j + 1 + (s.size - (j + 1)) := by omega
  have HSZD : Hid (∀ o, w.heap.size ≤ (w.alloc o).drew.heap.size) := Lib.hid (fun o => by show w.heap.size ≤ (w.alloc o).heap.size; simp)
  have HPUT : Hid (∀ (W : World) (T : ByteArray), Upd [] w W → T.size ≤ maxLen → Calls Try.prog 48 #[.slice (some ⟨b, o, none⟩) R.length cap, .agg #[.string n, .string T]] W fun e w' => ∃ v', e = .returned v' ∧ Below W.heap.size W w' ∧ Row kFile [] 65 W.heap.size w' v' (rput R (n, T))) := Lib.hid (fun W T hu hT =>
    ref_put_calls _ R n T [] W (H.out.upd hu (by simp) (by simp)) hlen hn hT)
  obtain ⟨bt, hbt⟩ : ∃ bt, s[j]? = some bt := ⟨s[j], getElem?_pos s j hj⟩
  have HT : Hid (rtext s j by_ = s.extract 0 j ++ strOfNums [bits .xor .u8 (bt.toNat : Int) by_] ++ s.extract (j + 1) s.size) := Lib.hid (by unfold rtext; rw [hbt]; rfl)
  have hix : ∀ W : World, (Instr.index 9 (.string s) (.int .i64 (j : Int))).run Try.prog W = .ok (.int .u8 (bt.toNat : Int)) W := fun W => by
    simp [Instr.index, run_underlying Try.underlying9, asIntOf, hbt, Sem.run_bind, Result.andThen]
  clear HF h hf hk
  go_enter Try.func33, Try.ntmps33
  go_wp2_with fail
  refine HFF.out.mono ?_
  rintro e w' ⟨rfl, rfl⟩
  go_wp2_with fail
  -- REGION
  refine wp_region_noPanic ?_
  refine wp_region_held_drew (S := fun _ => True) (by kernel_rfl) ?_ (fun hHeld => ?_)
  · (try dsimp only)
    all_goals trivial
  refine wpAnyH_take (i := 0) (oi := ?_) (v := ?_) ?_ (by kernel_rfl) (by kernel_rfl) (by kernel_rfl) (fun _ _ _ h => h) ?_ (by assumption) ?_
  (rotate_left 2; focus (simp only [List.getElem?_toArray, List.getElem?_cons_succ, List.getElem?_cons_zero]; rfl))
  (focus (refine Or.inl ⟨by rfl, ?_⟩; intro w hSw; (try dsimp only at hSw); go_simp; any_goals with_reducible rfl))
  (try simp only [Act.put, List.setIfInBounds_toArray, List.set_cons_zero, List.set_cons_succ])
  refine wpAnyH_take (i := 1) (oi := ?_) (v := ?_) ?_ (by kernel_rfl) (by kernel_rfl) (by kernel_rfl) (fun _ _ _ h => h) ?_ (by assumption) ?_
  (rotate_left 2; focus (simp only [List.getElem?_toArray, List.getElem?_cons_succ, List.getElem?_cons_zero]; rfl))
  (focus (refine Or.inl ⟨by rfl, ?_⟩; intro w hSw; (try dsimp only at hSw); go_simp; any_goals with_reducible rfl))
  (try simp only [Act.put, List.setIfInBounds_toArray, List.set_cons_zero, List.set_cons_succ])
  refine wpAnyH_take (i := 2) (oi := ?_) (v := ?_) ?_ (by kernel_rfl) (by kernel_rfl) (by kernel_rfl) (fun _ _ _ h => h) ?_ (by assumption) ?_
  (rotate_left 2; focus (simp only [List.getElem?_toArray, List.getElem?_cons_succ, List.getElem?_cons_zero]; rfl))
  (focus (refine Or.inl ⟨by rfl, ?_⟩; intro w hSw; (try dsimp only at hSw); go_simp; any_goals with_reducible rfl))
  (try simp only [Act.put, List.setIfInBounds_toArray, List.set_cons_zero, List.set_cons_succ])
  refine wpAnyH_take (i := 3) (oi := ?_) (v := ?_) ?_ (by kernel_rfl) (by kernel_rfl) (by kernel_rfl) (fun _ _ _ h => h) ?_ (by assumption) ?_
  (rotate_left 2; focus (simp only [List.getElem?_toArray, List.getElem?_cons_succ, List.getElem?_cons_zero]; rfl))
  (focus (refine Or.inl ⟨by rfl, ?_⟩; intro w hSw; (try dsimp only at hSw); go_simp; any_goals with_reducible rfl))
  (try simp only [Act.put, List.setIfInBounds_toArray, List.set_cons_zero, List.set_cons_succ])
  refine wpAnyH_take (i := 4) (oi := ?_) (v := ?_) ?_ (by kernel_rfl) (by kernel_rfl) (by kernel_rfl) (fun _ _ _ h => h) ?_ (by assumption) ?_
  (rotate_left 2; focus (simp only [List.getElem?_toArray, List.getElem?_cons_succ, List.getElem?_cons_zero]; rfl))
  (focus (refine Or.inl ⟨by rfl, ?_⟩; intro w hSw; (try dsimp only at hSw); go_simp; any_goals with_reducible rfl))
  (try simp only [Act.put, List.setIfInBounds_toArray, List.set_cons_zero, List.set_cons_succ])
  refine wpAnyH_take (i := 5) (oi := ?_) (v := ?_) ?_ (by kernel_rfl) (by kernel_rfl) (by kernel_rfl) (fun _ _ _ h => h) ?_ (by assumption) ?_
  (rotate_left 2; focus (simp only [List.getElem?_toArray, List.getElem?_cons_succ, List.getElem?_cons_zero]; rfl))
  (focus (refine Or.inl ⟨by rfl, ?_⟩; intro w hSw; (try dsimp only at hSw); go_simp; any_goals with_reducible rfl))
  (try simp only [Act.put, List.setIfInBounds_toArray, List.set_cons_zero, List.set_cons_succ])
  refine wpAnyH_take (i := 6) (oi := ?_) (v := ?_) ?_ (by kernel_rfl) (by kernel_rfl) (by kernel_rfl) (fun _ _ _ h => h) ?_ (by assumption) ?_
  (rotate_left 2; focus (simp only [List.getElem?_toArray, List.getElem?_cons_succ, List.getElem?_cons_zero]; rfl))
  (focus (refine Or.inl ⟨by rfl, ?_⟩; intro w hSw; (try dsimp only at hSw); go_simp; any_goals with_reducible rfl))
  (try simp only [Act.put, List.setIfInBounds_toArray, List.set_cons_zero, List.set_cons_succ])
  refine wpAnyH_take (i := 7) (oi := ?_) (v := ?_) ?_ (by kernel_rfl) (by kernel_rfl) (by kernel_rfl) (fun _ _ _ h => h) ?_ (by assumption) ?_
  (rotate_left 2; focus (simp only [List.getElem?_toArray, List.getElem?_cons_succ, List.getElem?_cons_zero]; rfl))
  (focus (refine Or.inl ⟨by rfl, ?_⟩; intro w hSw; (try dsimp only at hSw); (first | go_simp | skip); any_goals with_reducible rfl))
  (try simp only [Act.put, List.setIfInBounds_toArray, List.set_cons_zero, List.set_cons_succ])
  refine wpAnyH_take (i := 8) (oi := ?_) (v := ?_) ?_ (by kernel_rfl) (by kernel_rfl) (by kernel_rfl) (fun _ _ _ h => h) ?_ (by assumption) ?_
  (rotate_left 2; focus (simp only [List.getElem?_toArray, List.getElem?_cons_succ, List.getElem?_cons_zero]; rfl))
  (focus (refine Or.inl ⟨by rfl, ?_⟩; intro w hSw; (try dsimp only at hSw); go_simp; any_goals with_reducible rfl))
  (try simp only [Act.put, List.setIfInBounds_toArray, List.set_cons_zero, List.set_cons_succ])
  refine wpAnyH_take (i := 9) (oi := ?_) (v := ?_) ?_ (by kernel_rfl) (by kernel_rfl) (by kernel_rfl) (fun _ _ _ h => h) ?_ (by assumption) ?_
  (rotate_left 2; focus (simp only [List.getElem?_toArray, List.getElem?_cons_succ, List.getElem?_cons_zero]; rfl))
  (focus (refine Or.inl ⟨by rfl, ?_⟩; intro w hSw; (try dsimp only at hSw); go_simp; any_goals with_reducible rfl))
  (try simp only [Act.put, List.setIfInBounds_toArray, List.set_cons_zero, List.set_cons_succ])
  refine wpAnyH_take (i := 13) (oi := ?_) (v := ?_) ?_ (by kernel_rfl) (by kernel_rfl) (by kernel_rfl) (fun _ _ _ h => h) ?_ (by assumption) ?_
  (rotate_left 2; focus (simp only [List.getElem?_toArray, List.getElem?_cons_succ, List.getElem?_cons_zero]; rfl))
  (focus (refine Or.inl ⟨by rfl, ?_⟩; intro w hSw; (try dsimp only at hSw); go_simp; any_goals with_reducible rfl))
  (try simp only [Act.put, List.setIfInBounds_toArray, List.set_cons_zero, List.set_cons_succ])
  refine wpAnyH_take (i := 14) (oi := ?_) (v := ?_) ?_ (by kernel_rfl) (by kernel_rfl) (by kernel_rfl) (fun _ _ _ h => h) ?_ (by assumption) ?_
  (rotate_left 2; focus (simp only [List.getElem?_toArray, List.getElem?_cons_succ, List.getElem?_cons_zero]; rfl))
  (focus (refine Or.inl ⟨by rfl, ?_⟩; intro w hSw; (try dsimp only at hSw); go_simp; any_goals with_reducible rfl))
  (try simp only [Act.put, List.setIfInBounds_toArray, List.set_cons_zero, List.set_cons_succ])
  refine wpAnyH_take (i := 15) (oi := ?_) (v := ?_) ?_ (by kernel_rfl) (by kernel_rfl) (by kernel_rfl) (fun _ _ _ h => h) ?_ (by assumption) ?_
  (rotate_left 2; focus (simp only [List.getElem?_toArray, List.getElem?_cons_succ, List.getElem?_cons_zero]; rfl))
  (focus (refine Or.inl ⟨by rfl, ?_⟩; intro w hSw; (try dsimp only at hSw); go_simp; any_goals with_reducible rfl))
  (try simp only [Act.put, List.setIfInBounds_toArray, List.set_cons_zero, List.set_cons_succ])
  refine wpAnyH_take (i := 16) (oi := ?_) (v := ?_) ?_ (by kernel_rfl) (by kernel_rfl) (by kernel_rfl) (fun _ _ _ h => h) ?_ (by assumption) ?_
  (rotate_left 2; focus (simp only [List.getElem?_toArray, List.getElem?_cons_succ, List.getElem?_cons_zero]; rfl))
  (focus (refine Or.inl ⟨by rfl, ?_⟩; intro w hSw; (try dsimp only at hSw); go_simp; any_goals with_reducible rfl))
  (try simp only [Act.put, List.setIfInBounds_toArray, List.set_cons_zero, List.set_cons_succ])
  refine wpAnyH_ready (rs := [10]) (by kernel_rfl) (by simp) (AllReadyH.cons (by simp only [List.getElem?_toArray, List.getElem?_cons_succ, List.getElem?_cons_zero]; rfl) (fun K hK => ?_) AllReadyH.nil)
  go_simp
  refine hK.out _ _ ?_ (fun hNew => ?_)
  · (try dsimp only)
    all_goals trivial
  clear hK K hHeld
  have hHeld := hNew
  clear hNew
  (try simp only [Act.put, List.setIfInBounds_toArray, List.set_cons_zero, List.set_cons_succ])
  refine wpAnyH_ready (rs := [11]) (by kernel_rfl) (by simp) (AllReadyH.cons (by simp only [List.getElem?_toArray, List.getElem?_cons_succ, List.getElem?_cons_zero]; rfl) (fun K hK => ?_) AllReadyH.nil)
  go_simp
  refine hK.out _ _ ?_ (fun hNew => ?_)
  · (try dsimp only)
    all_goals trivial
  clear hK K hHeld
  have hHeld := hNew
  clear hNew
  (try simp only [Act.put, List.setIfInBounds_toArray, List.set_cons_zero, List.set_cons_succ])
  refine wpAnyH_take (i := 12) (oi := ?_) (v := ?_) ?_ (by kernel_rfl) (by kernel_rfl) (by kernel_rfl) (fun _ _ _ h => h) ?_ (by assumption) ?_
  (rotate_left 2; focus (simp only [List.getElem?_toArray, List.getElem?_cons_succ, List.getElem?_cons_zero]; rfl))
  (focus (refine Or.inl ⟨by rfl, ?_⟩; intro w hSw; (try dsimp only at hSw); go_simp; any_goals with_reducible rfl))
  (try simp only [Act.put, List.setIfInBounds_toArray, List.set_cons_zero, List.set_cons_succ])
  refine wpAnyH_take (i := 17) (oi := ?_) (v := ?_) ?_ (by kernel_rfl) (by kernel_rfl) (by kernel_rfl) (fun _ _ _ h => h) ?_ (by assumption) ?_
  (rotate_left 2; focus (simp only [List.getElem?_toArray, List.getElem?_cons_succ, List.getElem?_cons_zero]; rfl))
  (focus (refine Or.inl ⟨by rfl, ?_⟩; intro w hSw; (try dsimp only at hSw); go_simp; any_goals with_reducible rfl))
  (try simp only [Act.put, List.setIfInBounds_toArray, List.set_cons_zero, List.set_cons_succ])
  refine wpAnyH_take (i := 18) (oi := ?_) (v := ?_) ?_ (by kernel_rfl) (by kernel_rfl) (by kernel_rfl) (fun _ _ _ h => h) ?_ (by assumption) ?_
  (rotate_left 2; focus (simp only [List.getElem?_toArray, List.getElem?_cons_succ, List.getElem?_cons_zero]; rfl))
  (focus (refine Or.inl ⟨by rfl, ?_⟩; intro w hSw; (try dsimp only at hSw); go_simp; any_goals with_reducible rfl))
  (try simp only [Act.put, List.setIfInBounds_toArray, List.set_cons_zero, List.set_cons_succ])
  refine wpAnyH_ready (rs := [19]) (by kernel_rfl) (by simp) (AllReadyH.cons (by simp only [List.getElem?_toArray, List.getElem?_cons_succ, List.getElem?_cons_zero]; rfl) (fun K hK => ?_) AllReadyH.nil)
  go_simp
  go_at_call 48
  refine (HPUT.out _ _ ((Upd.alloc [] w _).trans (Upd.drew [] _)) (by simp only [ByteArray.size_append, hx1, hx2, hx3]; unfold maxLen; omega)).mono ?_
  rintro e wP ⟨vP, rfl, hbP, hrP⟩
  have HBP := Lib.hid ((((Upd.alloc [] w _).trans (Upd.drew [] _)).below).trans (hbP.mono (by simp)))
  have HRP := Lib.hid ((hrP.file_upd (Upd.refl [] _) (by simp) (M' := M)).read (fun k hk hm => absurd (Nat.lt_of_lt_of_le (HM.out k hm) (Nat.le_trans (HSZD.out _) (hrP.ob_lt k hk).1)) (Nat.lt_irrefl _)))
  clear hbP hrP
  (try go_wp2_with fail)
  refine hK.out _ _ ?_ (fun hNew => ?_)
  · (try dsimp only)
    all_goals trivial
  clear hK K hHeld
  have hHeld := hNew
  clear hNew
  (try simp only [Act.put, List.setIfInBounds_toArray, List.set_cons_zero, List.set_cons_succ])
  refine wpAnyH_take (i := 20) (oi := ?_) (v := ?_) ?_ (by kernel_rfl) (by kernel_rfl) (by kernel_rfl) (fun _ _ _ h => h) ?_ (by assumption) ?_
  (rotate_left 2; focus (simp only [List.getElem?_toArray, List.getElem?_cons_succ, List.getElem?_cons_zero]; rfl))
  (focus (refine Or.inl ⟨by rfl, ?_⟩; intro w hSw; (try dsimp only at hSw); go_simp; any_goals with_reducible rfl))
  (try simp only [Act.put, List.setIfInBounds_toArray, List.set_cons_zero, List.set_cons_succ])
  refine wpAnyH_take (i := 21) (oi := ?_) (v := ?_) ?_ (by kernel_rfl) (by kernel_rfl) (by kernel_rfl) (fun _ _ _ h => h) ?_ (by assumption) ?_
  (rotate_left 2; focus (simp only [List.getElem?_toArray, List.getElem?_cons_succ, List.getElem?_cons_zero]; rfl))
  (focus (refine Or.inl ⟨by rfl, ?_⟩; intro w hSw; (try dsimp only at hSw); go_simp; any_goals with_reducible rfl))
  (try simp only [Act.put, List.setIfInBounds_toArray, List.set_cons_zero, List.set_cons_succ])
  refine wpAnyH_done (by kernel_rfl) ?_ _
  refine NoPanic.normal ?_
  go_wp2_with fail
  go_ret2
  exact ⟨_, rfl, HBP.out, by rw [HT.out]; exact HRP.out⟩
  -- END REGION

end Go.Proofs.Yteafbhpjjibdeaa
