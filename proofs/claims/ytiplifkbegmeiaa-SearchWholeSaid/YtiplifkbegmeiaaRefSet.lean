/-
The reference's set; marks' iterator All.
-/
import Derived.Test.YtiplifkbegmeiaaSetsD
namespace Go.Proofs.Ytiplifkbegmeiaa
set_option linter.unusedVariables false
set_option linter.unusedSimpArgs false
open Go.RowKit

attribute [local go_sem] Oper.semAt_some

/-- The reference's set at block q: those met, in the order of their coming; N: blocks that are not its row's. -/
structure IsRef (w : World) (N : List Nat) (q : Nat) (n : Int) (l : List Int) : Prop where
  out : ∃ v, w.heap[q]? = some (.cells #[.int .i64 n, v] 82) ∧ (Kd.int .i64).slice.At N w [v] l

theorem IsRef.upd {w w' : World} {N T : List Nat} {q : Nat} {n : Int} {l : List Int} (h : IsRef w N q n l) (hu : Upd T w w') (hT : ∀ k, k ∈ T → k ∈ N) (hq : q ∉ T) : IsRef w' N q n l := by
  obtain ⟨v, h1, h2⟩ := h.out
  exact ⟨v, (hu.block q (block_lt h1) hq).trans h1, h2.upd hu hT (fun k hk => .inl hk)⟩

set_option maxHeartbeats 1000000 in
theorem ref_set_has_calls (q : Nat) (n : Int) (l : List Int) (id : Int) (N : List Nat) (w : World) (h : IsRef w N q n l) :
    Calls Try.prog 61 #[.pointer (some ⟨q, 0, none⟩), .int .i64 id] w fun e w' => e = .returned (.bool (decide (id ∈ l))) ∧ w = w' := by
  obtain ⟨v, h1, h2⟩ := h.out
  have c1 : w.cell? ⟨q, 1, none⟩ = some v := by rw [cell_of_block h1]; rfl
  obtain ⟨ao, cap, rfl, hl, hcap⟩ := slice_form' h2
  unfold maxLen at hcap
  have H2 := Lib.hid h2
  clear h h1 h2
  obtain ⟨res, hres⟩ : ∃ res, decide (id ∈ l) = res := ⟨_, rfl⟩
  rw [hres]
  have HRES := Lib.hid hres
  clear hres
  go_enter Try.func61, Try.ntmps61
  go_wp2_with fail
  go_loopw [5] (fun i wr => ∃ k : Nat, k ≤ l.length ∧ i = .int .i64 k ∧ Hid (id ∉ l.take k) ∧ wr = w) (fun i _ => l.length - (intOf i).toNat)
  case atStart => exact ⟨0, Nat.zero_le _, rfl, Lib.hid (by simp), rfl⟩
  case round =>
    obtain ⟨k, hk, rfl, hq, rfl⟩ := hrel
    by_cases hlt : k < l.length
    · obtain ⟨x, hx⟩ : ∃ x, l[k]? = some x := ⟨_, List.getElem?_eq_getElem hlt⟩
      obtain ⟨b, o, c, hv, _, _, _, _, c2, _⟩ := ints_at H2.out hx
      simp at hv
      obtain ⟨rfl, rfl⟩ := hv
      have hi1 : (k : Int) < (l.length : Int) := by omega
      have hi0 : (0 : Int) ≤ (k : Int) := by omega
      by_cases he : x = id
      · have hb : (x == id) = true := by simp [he]
        have hr : res = true := by rw [← HRES.out, decide_eq_true_eq, ← he]; exact List.mem_of_getElem? hx
        clear hx he
        go_wp2_with fail
        go_ret
        exact ⟨by rw [hr]; rfl, rfl⟩
      · have hb : (x == id) = false := by simpa using he
        have HQ := Lib.hid (show id ∉ l.take (k + 1) by
          rw [take_snoc' hx, List.mem_append, List.mem_singleton]
          rintro (h | h)
          · exact hq.out h
          · exact he h.symm)
        clear hx he
        go_wp2_with fail
        go_roundw
        case rel => exact ⟨k + 1, by omega, by go_num, HQ, by first | rfl | trivial⟩
        case measure => simp [intOf]; omega
    · have hr : res = false := by
        have := hq.out
        rw [List.take_of_length_le (by omega)] at this
        rw [← HRES.out]; simpa using this
      go_wp2_with fail
      go_ret
      exact ⟨by rw [hr]; rfl, rfl⟩

set_option maxHeartbeats 2000000 in
set_option maxRecDepth 100000 in
theorem ref_set_add_calls (q : Nat) (n : Int) (l : List Int) (id : Int) (N : List Nat) (w : World) (h : IsRef w N q n l) (hN : ∀ k, k ∈ N → k < w.heap.size) (hqN : q ∈ N) (hlen : l.length < 1099511627776) (hid : (Lit.int .i64 id).wf = true) :
    Calls Try.prog 37 #[.pointer (some ⟨q, 0, none⟩), .int .i64 id] w fun e w' => e = .returned (.bool (addsTo n.toNat l id)) ∧ Upd [q] w w' ∧ IsRef w' N q n (if addsTo n.toNat l id then l ++ [id] else l) := by
  obtain ⟨v, h1, h2⟩ := h.out
  have hqlt := block_lt h1
  have c0 : w.cell? ⟨q, 0, none⟩ = some (.int .i64 n) := by rw [cell_of_block h1]; rfl
  have c1 : w.cell? ⟨q, 1, none⟩ = some v := by rw [cell_of_block h1]; rfl
  have HC := Lib.hid (ref_set_has_calls q n l id N w h)
  have HS := Lib.hid h
  by_cases hlo : 0 ≤ id
  · by_cases hhi : id < n
    · by_cases hmem : id ∈ l
      · have e : addsTo n.toNat l id = false := by simp [addsTo, hmem]
        have e2 : decide (id ∈ l) = true := by simp [hmem]
        rw [e]
        rw [e2] at HC
        simp only [Bool.false_eq_true, if_false]
        clear h h1 h2 hmem e e2
        go_enter Try.func37, Try.ntmps37
        go_wp2_with fail
        refine HC.out.mono ?_
        rintro e w' ⟨rfl, rfl⟩
        go_wp2_with fail
        go_ret
        exact ⟨rfl, Upd.refl _ _, HS.out⟩
      · have e : addsTo n.toNat l id = true := by simp [addsTo, hmem, hlo]; omega
        have e2 : decide (id ∈ l) = false := by simp [hmem]
        rw [e]
        rw [e2] at HC
        simp only [if_true]
        obtain ⟨i0, hi, hz0, hz1, hz2⟩ := info_parts A.infoInt
        obtain ⟨v1, w1, hrun1, hr1, hb1⟩ := copy_ints (h2.upd (Upd.refl [] w) (by simp) (M' := []) (by simp)) (by omega)
        have hob1 := hr1.ob_lt
        obtain ⟨W2, hW2⟩ : ∃ W2, w1.alloc (.cells #[.int .i64 id] 3) = W2 := ⟨_, rfl⟩
        have hu2 : Upd [] w1 W2 := by rw [← hW2]; exact Upd.alloc [] w1 _
        have hz : W2.heap.size = w1.heap.size + 1 := by rw [← hW2]; simp
        have hone : W2.heap[w1.heap.size]? = some (.cells #[.int .i64 id] 3) := by rw [← hW2]; exact Go.heap_alloc_new w1 _
        have hr2 : Row (Kd.int .i64) [] 3 w.heap.size W2 v1 l := hr1.upd hu2 (by simp) (by simp) (fun k hk => .inl hk)
        obtain ⟨v3, w3, hrun3, hr3, hu3, _⟩ := hr2.appendAt (P := Try.prog) (t := 33) (ty := 33) (u := .slice (some ⟨w1.heap.size, 0, none⟩) 1 1) (l2 := [id]) Try.underlying33 hi hz0 hz1 hz2 rfl (by decide)
          (one_at hone (fun hm => by
            rw [List.append_nil] at hm
            have := (hob1 _ hm).2
            omega) hid)
          (by simp [maxLen]; omega) (by simp; omega) (by have := hb1.size; omega)
        obtain ⟨a3, c3, rfl, _, _⟩ := row_form hr3
        have hl3 : (l ++ [id]).length = l.length + 1 := by simp
        rw [hl3] at hrun3 hr3
        have hb3 : Below w.heap.size w w3 := (hb1.trans (hu2.below.mono hb1.size)).trans (hu3.belowB (by have := hb1.size; omega) (fun k hk => (hob1 k hk).1))
        have e3 : w3.heap[q]? = some (.cells #[.int .i64 n, v] 82) := (hb3.block q hqlt).trans h1
        have g1 : w3.cell? ⟨q, 1, none⟩ = some v := by rw [cell_of_block e3]; rfl
        have f1 : w3.frozen? ⟨q, 1, none⟩ = false := frozen_of_block e3
        have hob3 := hr3.ob_lt
        have hset : IsRef (w3.setCell ⟨q, 1, none⟩ (.slice a3 (l.length + 1) c3)) N q n (l ++ [id]) := by
          refine ⟨.slice a3 (l.length + 1) c3, (heap_setCell_same w3 q 1 _ _ _ e3).trans (by simp), ?_⟩
          refine ((hr3.int_any (M' := N)).read (fun k hk hkN => by have := (hob3 k hk).1; have := hN k hkN; omega)).upd (Upd.setCell (S := [q]) (p := ⟨q, 1, none⟩) (by simp) _) (by simp; exact hqN) (fun k hk => .inl hk)
        have hupd : Upd [q] w (w3.setCell ⟨q, 1, none⟩ (.slice a3 (l.length + 1) c3)) := (Upd.ofBelow hb3 [q]).trans (Upd.setCell (by simp) _)
        have HSET := Lib.hid hset
        have HUPD := Lib.hid hupd
        have HRUN1 := Lib.hid hrun1
        have HRUN3 := Lib.hid hrun3
        clear hl3 h h1 h2 hmem e e2 hset hupd hrun1 hrun3 hr1 hr2 hr3 hone hb1 hb3 hu2 hu3 hob1 hob3 e3 hi hz0 hz1 hz2 hz
        go_enter Try.func37, Try.ntmps37
        go_wp2_with fail
        refine HC.out.mono ?_
        rintro e w' ⟨rfl, rfl⟩
        go_wp2_with (at_builtin; first | refine append_step rfl _ _ _ rfl rfl rfl HRUN1.out ?_ | refine append_step rfl _ _ _ rfl rfl rfl HRUN3.out ?_)
        go_ret
        exact ⟨rfl, HUPD.out, HSET.out⟩
    · have e : addsTo n.toNat l id = false := by simp [addsTo]; intros; omega
      rw [e]
      simp only [Bool.false_eq_true, if_false]
      clear h h1 h2 e
      go_enter Try.func37, Try.ntmps37
      go_wp2_with fail
      go_ret
      exact ⟨rfl, Upd.refl _ _, HS.out⟩
  · have e : addsTo n.toNat l id = false := by simp [addsTo]; intros; omega
    rw [e]
    simp only [Bool.false_eq_true, if_false]
    clear h h1 h2 e
    go_enter Try.func37, Try.ntmps37
    go_wp2_with fail
    go_ret
    exact ⟨rfl, Upd.refl _ _, HS.out⟩

/-- Those of S below k, in order. -/
def setUpTo (k : Nat) (S : List Int) : List Int := ((List.range k).map (fun i : Nat => (i : Int))).filter (fun x => decide (x ∈ S))
theorem setUpTo_snoc (k : Nat) (S : List Int) : setUpTo (k + 1) S = if decide ((k : Int) ∈ S) then setUpTo k S ++ [(k : Int)] else setUpTo k S := by
  unfold setUpTo
  rw [List.range_succ, List.map_append, List.filter_append]
  by_cases h : (k : Int) ∈ S <;> simp [h]
theorem setUpTo_split (S : List Int) : ∀ (d k : Nat), ∃ rest, setUpTo (k + d) S = setUpTo k S ++ rest
  | 0, k => ⟨[], by simp⟩
  | d + 1, k => by
    obtain ⟨rest, h⟩ := setUpTo_split S d k
    rw [show k + (d + 1) = (k + d) + 1 by omega, setUpTo_snoc, h]
    split
    · exact ⟨rest ++ [((k + d : Nat) : Int)], by simp⟩
    · exact ⟨rest, rfl⟩
theorem setUpTo_mem (k : Nat) (S : List Int) (x : Int) : x ∈ setUpTo k S ↔ (0 ≤ x ∧ x < (k : Int)) ∧ x ∈ S := by
  unfold setUpTo
  simp only [List.mem_filter, List.mem_map, List.mem_range, decide_eq_true_eq]
  constructor
  · rintro ⟨⟨i, hi, rfl⟩, h⟩
    exact ⟨⟨by omega, by omega⟩, h⟩
  · rintro ⟨⟨h1, h2⟩, h⟩
    exact ⟨⟨x.toNat, by omega, by omega⟩, h⟩
theorem setUpTo_sorted (S : List Int) : ∀ k, (setUpTo k S).Pairwise (· < ·)
  | 0 => by simp [setUpTo]
  | k + 1 => by
    rw [setUpTo_snoc]
    split
    · rw [List.pairwise_append]
      refine ⟨setUpTo_sorted S k, by simp, ?_⟩
      intro a ha b hb
      simp at hb
      subst hb
      exact ((setUpTo_mem k S a).1 ha).1.2
    · exact setUpTo_sorted S k
theorem setUpTo_uniq (k : Nat) (S : List Int) (h : ∀ x ∈ S, 0 ≤ x ∧ x < (k : Int)) : setUpTo k S = uniq S :=
  sorted_ext _ _ (setUpTo_sorted S k) (uniq_sorted S) (fun x => by rw [setUpTo_mem, uniq_mem]; exact ⟨fun h => h.2, fun hx => ⟨h x hx, hx⟩⟩)

def valInt (W : World) (M : List Nat) (x : Int) (args : Array Value) : Prop := args = #[.int .i64 x]

set_option maxHeartbeats 2000000 in
set_option maxRecDepth 100000 in
theorem all_it (bx p g n : Nat) (S : List Int) (t : TypeId) (w : World) (hb : w.heap[bx]? = some (.cells #[.pointer (some ⟨p, 0, none⟩)] t)) (hs : IsSet w p g n S) (N : List Nat) (h1 : bx ∉ N) (h2 : p ∉ N) (h3 : g ∉ N) :
    ItFrom Try.prog w N 56 #[.pointer (some ⟨bx, 0, none⟩)] (setUpTo n S) valInt := by
  intro W0 lp M0 hW hlp hM0 J Jx hJ hY hlpl hMl h0
  have hbx := block_lt hb
  have hpl := block_lt hs.hp
  have hgl : g < w.heap.size := by obtain ⟨_, _, hg, _⟩ := hs.hg; exact block_lt hg
  have B0 : W0.heap[bx]? = some (.cells #[.pointer (some ⟨p, 0, none⟩)] t) := (hW.block bx hbx h1).trans hb
  have S0 : IsSet W0 p g n S := hs.upd hW h2 h3
  have hs0 := hW.size
  have hnm := hs.nm
  have c0 : W0.cell? ⟨bx, 0, none⟩ = some (.pointer (some ⟨p, 0, none⟩)) := by rw [cell_of_block B0]; rfl
  have c1 : W0.cell? ⟨p, 0, none⟩ = some (.int .i64 n) := by rw [cell_of_block S0.hp]; rfl
  have HN0 : Hid (∀ k, k ∈ M0 → k ≠ bx ∧ k ≠ p ∧ k ≠ g) := Lib.hid (fun k hk => by
    rcases hM0 k hk with h | h
    · exact ⟨fun e => h1 (e ▸ h), fun e => h2 (e ▸ h), fun e => h3 (e ▸ h)⟩
    · exact ⟨by omega, by omega, by omega⟩)
  have hlpn : Hid (lp ≠ bx ∧ lp ≠ p ∧ lp ≠ g) := Lib.hid ⟨by omega, by omega, by omega⟩
  have BB0 := Lib.hid B0
  have SS0 := Lib.hid S0
  have HJ := Lib.hid hJ
  have HY := Lib.hid hY
  have HM := Lib.hid hMl
  have H0 := Lib.hid h0
  clear B0 S0 hJ hY hb hs hMl hM0 h0 hW h1 h2 h3
  refine callsIn_of_wp Try.func56 rfl trivial ?_
  simp only [Try.ntmps56, List.size_toArray, List.length_cons, List.length_nil, Nat.reduceAdd, Nat.reduceSub, Array.replicate_succ, Array.replicate_zero, List.push_toArray, List.append_toArray, List.nil_append, List.cons_append]
  gi_wp2
  gi_loopw [8] (fun i wr => ∃ (k : Nat) (M : List Nat), k ≤ n ∧ i = .int .i64 k ∧ Hid (J (setUpTo k S) M wr) ∧ Hid (wr.heap[bx]? = some (.cells #[.pointer (some ⟨p, 0, none⟩)] t)) ∧ Hid (IsSet wr p g n S) ∧ Hid (∀ k, k ∈ M → k < wr.heap.size) ∧ Hid (∀ k, k ∈ M → k ≠ bx ∧ k ≠ p ∧ k ≠ g) ∧ W0.heap.size ≤ wr.heap.size) (fun i _ => n - (intOf i).toNat)
  case atStart => exact ⟨0, M0, Nat.zero_le _, rfl, by show J (setUpTo 0 S) M0 W0; simpa [setUpTo] using H0.out, BB0.out, SS0.out, HM.out, HN0.out, Nat.le_refl _⟩
  case round =>
    clear c0 c1
    obtain ⟨k, M, hk, rfl, hj, hbb, hss, hm, hmn, hsz⟩ := hrel
    by_cases hlt : k < n
    · have c0 : wr.cell? ⟨bx, 0, none⟩ = some (.pointer (some ⟨p, 0, none⟩)) := by rw [cell_of_block hbb.out]; rfl
      have hc := marks_has_calls p g n S (k : Int) wr hss.out
      have htk := setUpTo_snoc k S
      cases hmem : decide ((k : Int) ∈ S) with
      | false =>
        rw [hmem] at hc htk
        simp only [Bool.false_eq_true, if_false] at htk
        have HC := Lib.hid hc
        have HTK := Lib.hid htk
        clear hmem hc htk
        gi_wp2
        refine ⟨trivial, rfl, ?_⟩
        refine (calls_in HC.out).mono ?_
        rintro e w2 ⟨rfl, rfl⟩
        gi_wp2
        refine ⟨by first | trivial | exact fun _ _ => trivial, ?_⟩
        go_at_K
        gi_wp2
        go_roundw
        case rel => exact ⟨k + 1, M, by omega, by go_num, by rw [HTK.out]; exact hj.out, hbb.out, hss.out, hm.out, hmn.out, by omega⟩
        case measure => simp [intOf]; omega
      | true =>
        rw [hmem] at hc htk
        simp only [if_true] at htk
        have HC := Lib.hid hc
        have HTK := Lib.hid htk
        obtain ⟨rest, hrest⟩ := setUpTo_split S (n - (k + 1)) (k + 1)
        rw [show k + 1 + (n - (k + 1)) = n by omega, htk, List.append_assoc, List.singleton_append] at hrest
        have HR := Lib.hid hrest
        obtain ⟨fn, tmps, assign, body, hy, hRR⟩ := HY.out _ _ _ M wr #[.int .i64 k] HR.out hj.out rfl hm.out 0
        clear hmem hc htk hrest
        gi_wp2
        refine ⟨trivial, rfl, ?_⟩
        refine (calls_in HC.out).mono ?_
        rintro e w2 ⟨rfl, rfl⟩
        gi_wp2
        refine ⟨rfl, hRR.mono ?_⟩
        rintro e w3 ⟨M', hU3, hM', hcase⟩
        have hz3 := hU3.size
        have hdis : ∀ k, k ∈ lp :: M → k ≠ bx ∧ k ≠ p ∧ k ≠ g := by
          intro k hk
          rcases List.mem_cons.1 hk with rfl | hk
          · exact hlpn.out
          · exact hmn.out k hk
        have HBB3 : Hid (w3.heap[bx]? = some (.cells #[.pointer (some ⟨p, 0, none⟩)] t)) := Lib.hid ((hU3.block bx (block_lt hbb.out) (fun h => (hdis _ h).1 rfl)).trans hbb.out)
        have HSS3 : Hid (IsSet w3 p g n S) := Lib.hid (hss.out.upd hU3 (fun h => (hdis _ h).2.1 rfl) (fun h => (hdis _ h).2.2 rfl))
        have HM3 := Lib.hid (fun k hk => (hM' k hk).1)
        have HN3 : Hid (∀ k, k ∈ M' → k ≠ bx ∧ k ≠ p ∧ k ≠ g) := Lib.hid (fun k hk => by
          rcases (hM' k hk).2 with h | h
          · exact hmn.out k h
          · have := block_lt hbb.out
            have := block_lt hss.out.hp
            obtain ⟨_, _, hg, _⟩ := hss.out.hg
            have := block_lt hg
            exact ⟨by omega, by omega, by omega⟩)
        rcases hcase with ⟨rfl, hj3⟩ | ⟨rfl, hj3⟩
        · have HJ3 := Lib.hid hj3
          clear hU3 hM' hj3 hRR hy c0 hdis
          gi_wp2
          go_roundw
          case rel => exact ⟨k + 1, M', by omega, by go_num, by rw [HTK.out]; exact HJ3.out, HBB3.out, HSS3.out, HM3.out, HN3.out, by omega⟩
          case measure => simp [intOf]; omega
        · have HJ3 := Lib.hid hj3
          clear hU3 hM' hj3 hRR hy c0 hdis
          gi_wp2
          refine bodyPost_ret (results_none rfl _ _ _) rfl ?_
          exact ⟨⟨_, rfl⟩, M', .inr ⟨_, ⟨rest, by rw [List.append_assoc]; exact HR.out.symm⟩, HJ3.out⟩⟩
    · gi_wp2
      go_end0
      have hkl : k = n := by omega
      subst hkl
      exact ⟨⟨_, rfl⟩, M, .inl hj.out⟩

theorem marks_all_calls (p g n : Nat) (S : List Int) (M : List Nat) (w : World) (h : IsSet w p g n S) (h2 : p ∉ M) (h3 : g ∉ M) (hM : ∀ k, k ∈ M → k < w.heap.size) :
    Calls Try.prog 33 #[.pointer (some ⟨p, 0, none⟩)] w fun e w' => ∃ bx, e = .returned (.func (.func 56) #[] #[.pointer (some ⟨bx, 0, none⟩)]) ∧ Below w.heap.size w w' ∧
      ItFrom Try.prog w' M 56 #[.pointer (some ⟨bx, 0, none⟩)] (setUpTo n S) valInt := by
  have hit : ∀ W t, Upd [] w W → W.heap[w.heap.size]? = some (.cells #[.pointer (some ⟨p, 0, none⟩)] t) → ItFrom Try.prog W M 56 #[.pointer (some ⟨w.heap.size, 0, none⟩)] (setUpTo n S) valInt := fun W t hu hb =>
    all_it w.heap.size p g n S t W hb (h.upd hu (by simp) (by simp)) M (fun hm => by have := hM _ hm; omega) h2 h3
  have HIT := Lib.hid hit
  have HB := Lib.hid (fun o => (Below.refl _ w).alloc (Nat.le_refl _) o)
  clear hit h hM h2 h3
  go_enter Try.func33, Try.ntmps33
  go_wp2_with fail
  go_ret
  exact ⟨_, rfl, HB.out _, HIT.out _ _ (Upd.alloc [] w _) (Go.heap_alloc_new w _)⟩

end Go.Proofs.Ytiplifkbegmeiaa
