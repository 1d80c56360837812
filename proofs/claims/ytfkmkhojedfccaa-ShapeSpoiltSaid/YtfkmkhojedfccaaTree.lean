/-
The document's answers: ref14.Tree.
-/
import Derived.Test.YtfkmkhojedfccaaRefB
namespace Go.Proofs.Ytfkmkhojedfccaa
set_option linter.unusedVariables false
set_option linter.unusedSimpArgs false
open Go.RowKit

def leafOk (x : Nd) : Bool := x.left == 0 && x.right == 0 && x.pl.off == 0 && (x.pl.normal.length == 0)
/-- ref14.Tree; fuel: how many depths are left. -/
def treeGo (l : List Nd) (dim : Int) : Nat → Nat → Nat → List (Int × Int) × Nat × Bool
  | 0, _, _ => ([], 0, false)
  | f + 1, at_, d => match l[at_]? with
    | none => ([], 0, false)
    | some x => if x.leaf then ([((at_ : Int), (d : Int))], at_ + 1, leafOk x)
      else if 0 < x.ids.length ∨ planeCheck x.pl dim ≠ 0 ∨ x.left ≠ (at_ : Int) + 1 then ([], 0, false)
      else
        let a := treeGo l dim f (at_ + 1) (d + 1)
        if a.2.2 = false ∨ x.right ≠ (a.2.1 : Int) then ([], 0, false)
        else
          let b := treeGo l dim f a.2.1 (d + 1)
          ([((at_ : Int), (d : Int))] ++ a.1 ++ b.1, b.2.1, b.2.2)

/-- How many places are told, and where they end. -/
theorem treeGo_len (l : List Nd) (dim : Int) : ∀ (f at_ d : Nat), ((treeGo l dim f at_ d).1 = [] ∧ (treeGo l dim f at_ d).2.1 = 0 ∧ (treeGo l dim f at_ d).2.2 = false) ∨ (at_ + (treeGo l dim f at_ d).1.length = (treeGo l dim f at_ d).2.1 ∧ (treeGo l dim f at_ d).2.1 ≤ l.length) ∨ ((treeGo l dim f at_ d).2.2 = false ∧ (treeGo l dim f at_ d).2.1 = 0 ∧ at_ + (treeGo l dim f at_ d).1.length ≤ l.length)
  | 0, at_, d => by simp [treeGo]
  | f + 1, at_, d => by
    unfold treeGo
    cases hx : l[at_]? with
    | none => simp
    | some x =>
      have hlt := (List.getElem?_eq_some_iff.1 hx).1
      simp only
      split
      · right; left; simp; omega
      · split
        · simp
        · split
          · simp
          · rename_i h1
            have iha := treeGo_len l dim f (at_ + 1) (d + 1)
            generalize treeGo l dim f (at_ + 1) (d + 1) = a at *
            have ihb := treeGo_len l dim f a.2.1 (d + 1)
            generalize treeGo l dim f a.2.1 (d + 1) = b at *
            have ha : a.2.2 = true := by simp at h1; exact h1.1
            simp only [List.length_append, List.length_cons, List.length_nil]
            rcases iha with h | h | h
            · rw [ha] at h; simp at h
            · rcases ihb with k | k | k
              · right; right; simp [k]; omega
              · right; left; omega
              · right; right; refine ⟨k.1, k.2.1, ?_⟩; omega
            · rw [ha] at h; simp at h
theorem treeGo_le (l : List Nd) (dim : Int) (f at_ d : Nat) : (treeGo l dim f at_ d).1.length ≤ l.length ∧ (treeGo l dim f at_ d).2.1 ≤ l.length := by
  rcases treeGo_len l dim f at_ d with h | h | h
  · rw [h.1, h.2.1]; simp
  · omega
  · omega

theorem results_tmp3 {fn : Func} {t u x : Tmp} (h : fn.results = #[.tmp t, .tmp u, .tmp x]) (tmps : Array Value) (P : Program) (w : World) :
    (results fn tmps).run P w = .ok (.tuple #[tmps.getD t undef, tmps.getD u undef, tmps.getD x undef]) w := by
  simp [results, h]

theorem Row.right_any {M M' : List Nat} {e : TypeId} {B : Nat} {w : World} {v : Value} {l : List (Int × Int)} (h : Row kRight M e B w v l) : Row kRight M' e B w v l := by
  obtain ⟨css, h1, h2, h3⟩ := h.out
  exact ⟨css, h1, h2, fun i cs x a b => ⟨(h3 i cs x a b).out⟩⟩

theorem A.infoVisit : (Try.prog.info? 154).map (fun i => (i.zero, i.size, i.bytes)) = some (some (.agg #[.int .i64 0, .int .i64 0]), 2, 16) := by kernel_rfl

theorem row_one {M : List Nat} {e : TypeId} {B : Nat} {w : World} {g : Nat} {a b : Int} (h : w.heap[g]? = some (.cells #[.int .i64 a, .int .i64 b] e)) (hB : B ≤ g) : Row kRight M e B w (.slice (some ⟨g, 0, none⟩) 1 1) [(a, b)] :=
  ⟨[[.int .i64 a, .int .i64 b]], ⟨by simp [kRight], .inr ⟨g, 1, _, rfl, hB, h, Nat.le_refl _, by simp [maxLen], by simp [kRight], by simp [kRight]⟩⟩, rfl, fun i cs x h1 h2 => by
    cases i with
    | zero => simp at h1 h2; subst h1 h2; exact ⟨rfl⟩
    | succ i => simp at h1⟩

set_option maxRecDepth 100000 in
set_option maxHeartbeats 4000000 in
theorem tree_calls (v : Value) (l : List Nd) (dim : Int) (hlen : l.length ≤ 1099511627776) : ∀ (f at_ d : Nat) (M : List Nat) (w : World) (h : kNd.slice.At M w [v] l) (hf : f + d = 65) (hat : at_ ≤ 1099511627776),
    Calls Try.prog 48 #[v, .int .i64 dim, .int .i64 at_, .int .i64 d] w fun e w' => ∃ v', e = .returned (.tuple #[v', .int .i64 (treeGo l dim f at_ d).2.1, .bool (treeGo l dim f at_ d).2.2]) ∧ Below w.heap.size w w' ∧
      Row kRight [] 154 w.heap.size w' v' (treeGo l dim f at_ d).1 := by
  intro f
  induction f with
  | zero =>
    intro at_ d M w h hf hat
    obtain ⟨ao, cap, rfl, hl, hcap⟩ := Kd.slice_form h
    unfold maxLen at hcap
    have hn := Lib.hid (Row.nil kRight [] 154 w.heap.size w)
    have hd : d = 65 := by omega
    subst hd
    clear h
    simp only [treeGo]
    go_enter Try.func48, Try.ntmps48
    go_wp2_with fail
    all_goals
      refine bodyPost_ret (results_tmp3 rfl _ _ _) rfl ?_
      exact ⟨_, rfl, Below.refl _ _, hn.out⟩
  | succ f ih =>
    intro at_ d M w h hf hat
    obtain ⟨ao, cap, rfl, hl, hcap⟩ := Kd.slice_form h
    unfold maxLen at hcap
    have H := Lib.hid h
    have hn := Lib.hid (Row.nil kRight [] 154 w.heap.size w)
    have hd : d ≤ 64 := by omega
    by_cases hlt : at_ < l.length
    · obtain ⟨x, hx⟩ : ∃ x, l[at_]? = some x := ⟨_, List.getElem?_eq_getElem hlt⟩
      obtain ⟨b, o, c, vi, vn, hv, hbs, _, _, _, hnd, c0, c1, c2, c3, c4, c5⟩ := nds_at h hx
      simp at hv
      obtain ⟨rfl, rfl⟩ := hv
      obtain ⟨ai, ci, rfl, _, _⟩ := slice_form' hnd.ids
      obtain ⟨an, cn, rfl, _, _⟩ := slice_form' hnd.normal
      have ht : treeGo l dim (f + 1) at_ d = if x.leaf then ([((at_ : Int), (d : Int))], at_ + 1, leafOk x)
        else if 0 < x.ids.length ∨ planeCheck x.pl dim ≠ 0 ∨ x.left ≠ (at_ : Int) + 1 then ([], 0, false)
        else
          let a := treeGo l dim f (at_ + 1) (d + 1)
          if a.2.2 = false ∨ x.right ≠ (a.2.1 : Int) then ([], 0, false)
          else
            let b := treeGo l dim f a.2.1 (d + 1)
            ([((at_ : Int), (d : Int))] ++ a.1 ++ b.1, b.2.1, b.2.2) := by
        conv => lhs; unfold treeGo
        rw [hx]
      have hbd := treeGo_le l dim (f + 1) at_ d
      generalize treeGo l dim (f + 1) at_ d = res at ht hbd ⊢
      have HT := Lib.hid ht
      -- the node's copy, the row of its own place
      obtain ⟨W1, hW1⟩ : ∃ W1, w.alloc (.cells #[.bool x.leaf, .slice ai x.ids.length ci, .slice an x.pl.normal.length cn, .int .i64 x.pl.off, .int .i64 x.left, .int .i64 x.right] 48) = W1 := ⟨_, rfl⟩
      obtain ⟨W2, hW2⟩ : ∃ W2, W1.alloc (.cells #[.int .i64 at_, .int .i64 d] 154) = W2 := ⟨_, rfl⟩
      have hu1 : Upd [] w W1 := by rw [← hW1]; exact Upd.alloc [] w _
      have hu2 : Upd [] W1 W2 := by rw [← hW2]; exact Upd.alloc [] W1 _
      have hz1 : W1.heap.size = w.heap.size + 1 := by rw [← hW1]; simp
      have hz2 : W2.heap.size = w.heap.size + 2 := by rw [← hW2]; simp; omega
      have hbx1 : W1.heap[w.heap.size]? = some (.cells #[.bool x.leaf, .slice ai x.ids.length ci, .slice an x.pl.normal.length cn, .int .i64 x.pl.off, .int .i64 x.left, .int .i64 x.right] 48) := by rw [← hW1]; exact Go.heap_alloc_new w _
      have hbx := upd_far hu2 hbx1 (by simp)
      have hby : W2.heap[W1.heap.size]? = some (.cells #[.int .i64 at_, .int .i64 d] 154) := by rw [← hW2]; exact Go.heap_alloc_new W1 _
      have hown : Row kRight [] 154 w.heap.size W2 (.slice (some ⟨W1.heap.size, 0, none⟩) 1 1) [((at_ : Int), (d : Int))] := row_one hby (by omega)
      have g0 : W2.cell? ⟨w.heap.size, 0, none⟩ = some (.bool x.leaf) := by rw [cell_of_block hbx]; rfl
      have g1 : W2.cell? ⟨w.heap.size, 1, none⟩ = some (.slice ai x.ids.length ci) := by rw [cell_of_block hbx]; rfl
      have g2 : W2.cell? ⟨w.heap.size, 2, none⟩ = some (.slice an x.pl.normal.length cn) := by rw [cell_of_block hbx]; rfl
      have g3 : W2.cell? ⟨w.heap.size, 3, none⟩ = some (.int .i64 x.pl.off) := by rw [cell_of_block hbx]; rfl
      have g4 : W2.cell? ⟨w.heap.size, 4, none⟩ = some (.int .i64 x.left) := by rw [cell_of_block hbx]; rfl
      have g5 : W2.cell? ⟨w.heap.size, 5, none⟩ = some (.int .i64 x.right) := by rw [cell_of_block hbx]; rfl
      have HB2 := Lib.hid ((hu1.trans hu2).below)
      have HU2 := Lib.hid (hu1.trans hu2)
      have HOWN := Lib.hid hown
      have HBX := Lib.hid hbx
      have HND := Lib.hid hnd
      clear h ht hu1 hu2 hbx1 hbx hby hown hnd hx
      cases hleaf : x.leaf with
      | true =>
        rw [hleaf] at hW1 c0 g0 HT
        simp only [if_true] at HT
        go_enter Try.func48, Try.ntmps48
        go_wp2_with fail
        by_cases q0 : x.left = 0
        · have r0 : (x.left == 0) = true := by simpa using q0
          by_cases q1 : x.right = 0
          · have r1 : (x.right == 0) = true := by simpa using q1
            by_cases q2 : x.pl.off = 0
            · have r2 : (x.pl.off == 0) = true := by simpa using q2
              by_cases q3 : x.pl.normal.length = 0
              · have r3 : ((x.pl.normal.length : Int) == 0) = true := by simp [q3]
                have hok : leafOk x = true := by simp [leafOk, *]
                rw [hok] at HT
                clear hok
                go_quiet (fail)
                go_wp2_with fail
                refine bodyPost_ret (results_tmp3 rfl _ _ _) rfl ?_
                rw [HT.out]
                exact ⟨_, by first | rfl | simp, HB2.out.trans (bdN _ W2 nq), HOWN.out.upd (Upd.drewN [] W2 nq) (by simp) (by simp) (by simp)⟩
              · have r3 : ((x.pl.normal.length : Int) == 0) = false := by rw [beq_eq_false_iff_ne]; omega
                have hok : leafOk x = false := by simp [leafOk, *]
                rw [hok] at HT
                clear hok
                go_quiet (fail)
                go_wp2_with fail
                refine bodyPost_ret (results_tmp3 rfl _ _ _) rfl ?_
                rw [HT.out]
                exact ⟨_, by first | rfl | simp, HB2.out.trans (bdN _ W2 nq), HOWN.out.upd (Upd.drewN [] W2 nq) (by simp) (by simp) (by simp)⟩
            · have r2 : (x.pl.off == 0) = false := by simpa using q2
              have hok : leafOk x = false := by simp [leafOk, *]
              rw [hok] at HT
              clear hok
              go_quiet (fail)
              go_wp2_with fail
              refine bodyPost_ret (results_tmp3 rfl _ _ _) rfl ?_
              rw [HT.out]
              exact ⟨_, by first | rfl | simp, HB2.out.trans (bdN _ W2 nq), HOWN.out.upd (Upd.drewN [] W2 nq) (by simp) (by simp) (by simp)⟩
          · have r1 : (x.right == 0) = false := by simpa using q1
            have hok : leafOk x = false := by simp [leafOk, *]
            rw [hok] at HT
            clear hok
            go_quiet (fail)
            go_wp2_with fail
            refine bodyPost_ret (results_tmp3 rfl _ _ _) rfl ?_
            rw [HT.out]
            exact ⟨_, by first | rfl | simp, HB2.out.trans (bdN _ W2 nq), HOWN.out.upd (Upd.drewN [] W2 nq) (by simp) (by simp) (by simp)⟩
        · have r0 : (x.left == 0) = false := by simpa using q0
          have hok : leafOk x = false := by simp [leafOk, *]
          rw [hok] at HT
          clear hok
          go_quiet (fail)
          go_wp2_with fail
          refine bodyPost_ret (results_tmp3 rfl _ _ _) rfl ?_
          rw [HT.out]
          exact ⟨_, by first | rfl | simp, HB2.out.trans (bdN _ W2 nq), HOWN.out.upd (Upd.drewN [] W2 nq) (by simp) (by simp) (by simp)⟩
      | false =>
        rw [hleaf] at hW1 c0 g0 HT
        simp only [Bool.false_eq_true, if_false] at HT
        by_cases p1 : 0 < x.ids.length
        · have e : res = ([], 0, false) := by rw [HT.out, if_pos (Or.inl p1)]
          rw [e]
          have p1' : (0 : Int) < (x.ids.length : Int) := by omega
          clear e HT
          go_enter Try.func48, Try.ntmps48
          go_wp2_with fail
          refine bodyPost_ret (results_tmp3 rfl _ _ _) rfl ?_
          exact ⟨_, rfl, HB2.out, hn.out.upd HU2.out (by simp) (by simp) (by simp)⟩
        · have HC := Lib.hid (ref11_check_calls _ x.pl.off dim x.pl.normal M W2 (HND.out.normal.upd HU2.out (by simp) (fun k hk => .inl hk)))
          have p1' : (x.ids.length : Int) = 0 := by omega
          have HT2 : Hid (res = if planeCheck x.pl dim ≠ 0 ∨ x.left ≠ (at_ : Int) + 1 then ([], 0, false)
              else
                let a := treeGo l dim f (at_ + 1) (d + 1)
                if a.2.2 = false ∨ x.right ≠ (a.2.1 : Int) then ([], 0, false)
                else
                  let b := treeGo l dim f a.2.1 (d + 1)
                  ([((at_ : Int), (d : Int))] ++ a.1 ++ b.1, b.2.1, b.2.2)) := Lib.hid (by rw [HT.out]; simp only [p1, false_or])
          obtain ⟨pc, hpc⟩ : ∃ pc, planeCheck x.pl dim = pc := ⟨_, rfl⟩
          rw [show planeCheck ⟨x.pl.normal, x.pl.off⟩ dim = pc from hpc] at HC
          rw [hpc] at HT2
          clear HT hpc p1
          go_enter Try.func48, Try.ntmps48
          go_wp2_with fail
          refine HC.out.mono ?_
          rintro e w3 ⟨rfl, hb3⟩
          have hz3 := hb3.size
          have HB3 := Lib.hid (HB2.out.trans (hb3.mono HB2.out.size))
          have HU3 := Lib.hid (Upd.ofBelow hb3 [])
          have hx3 := (hb3.block w.heap.size (by omega)).trans HBX.out
          have k4 : w3.cell? ⟨w.heap.size, 4, none⟩ = some (.int .i64 x.left) := by rw [cell_of_block hx3]; rfl
          by_cases p2 : pc = 0
          · by_cases p3 : x.left = (at_ : Int) + 1
            · have e := HT2.out
              rw [if_neg (by simp [p2, p3])] at e
              have HT3 := Lib.hid e
              have q2 : (pc != 0) = false := by simpa using p2
              have q3 : (x.left != (at_ : Int) + 1) = false := by simpa using p3
              have HA := ih (at_ + 1) (d + 1) M w3 (H.out.below HB3.out) (by omega) (by omega)
              rw [show ((at_ + 1 : Nat) : Int) = (at_ : Int) + 1 from rfl, show ((d + 1 : Nat) : Int) = (d : Int) + 1 from rfl] at HA
              have HAA := Lib.hid HA
              clear e HA HT2 p2 p3
              go_wp2_with fail
              refine HAA.out.mono ?_
              rintro e w4 ⟨va, rfl, hb4, hra⟩
              have hz4 := hb4.size
              have HB4 := Lib.hid (HB3.out.trans (hb4.mono HB3.out.size))
              have HU4 := Lib.hid (HU3.out.trans (Upd.ofBelow hb4 []))
              have hx4 := (hb4.block w.heap.size (by omega)).trans hx3
              have k5 : w4.cell? ⟨w.heap.size, 5, none⟩ = some (.int .i64 x.right) := by rw [cell_of_block hx4]; rfl
              obtain ⟨a, ha⟩ : ∃ a, treeGo l dim f (at_ + 1) (d + 1) = a := ⟨_, rfl⟩
              have hale := treeGo_le l dim f (at_ + 1) (d + 1)
              rw [ha] at hale hra HT3
              simp only [ha]
              obtain ⟨al, mid, aok⟩ := a
              simp only at hale hra HT3 ⊢
              have HRA := Lib.hid hra
              clear hra ha hb4 k4 hx3
              cases aok with
              | false =>
                have e : res = ([], 0, false) := by rw [HT3.out]; simp
                have HE := Lib.hid e
                clear e HT3
                go_wp2_with fail
                refine bodyPost_ret (results_tmp3 rfl _ _ _) rfl ?_
                rw [HE.out]
                exact ⟨_, rfl, HB4.out, hn.out.upd (Upd.ofBelow HB4.out []) (by simp) (by simp) (by simp)⟩
              | true =>
                by_cases p4 : x.right = (mid : Int)
                · have e := HT3.out
                  rw [if_neg (by simp [p4])] at e
                  have HT4 := Lib.hid e
                  have q4 : (x.right != (mid : Int)) = false := by simpa using p4
                  have HA := ih mid (d + 1) M w4 (H.out.below HB4.out) (by omega) (by omega)
                  rw [show ((d + 1 : Nat) : Int) = (d : Int) + 1 from rfl] at HA
                  have HAB := Lib.hid HA
                  clear e HA HT3 p4
                  go_wp2_with fail
                  refine HAB.out.mono ?_
                  rintro e w5 ⟨vb, rfl, hb5, hrb⟩
                  have hz5 := hb5.size
                  have HB5 := Lib.hid (HB4.out.trans (hb5.mono HB4.out.size))
                  obtain ⟨bb, hbb⟩ : ∃ a, treeGo l dim f mid (d + 1) = a := ⟨_, rfl⟩
                  have hble := treeGo_le l dim f mid (d + 1)
                  rw [hbb] at hble hrb HT4
                  simp only [hbb]
                  obtain ⟨bl, fin, bok⟩ := bb
                  simp only at hble hrb HT4 ⊢
                  have hbd2 := hbd.1
                  rw [HT4.out] at hbd2
                  simp only [List.length_append, List.length_cons, List.length_nil] at hbd2
                  -- the two appends
                  have h25 : Upd [] W2 w5 := HU4.out.trans (Upd.ofBelow hb5 [])
                  have hz24 := HU4.out.size
                  have hown5 := HOWN.out.upd h25 (by simp) (by simp) (M' := []) (by simp)
                  have hra5 : Row kRight [W1.heap.size] 154 w3.heap.size w5 va al := (HRA.out.right_any (M' := [])).upd (Upd.ofBelow hb5 []) (by simp) (by simp) (M' := []) (by simp) |>.right_any
                  obtain ⟨i0, hi0, hy0, hy1, hy2⟩ := info_parts A.infoVisit
                  have hsa : kRight.slice.At (ob (.slice (some ⟨W1.heap.size, 0, none⟩) 1 1) ++ []) w5 [va] al := by
                    have := hra5.read (fun k hk h2 => by have := (hra5.ob_lt k hk).1; simp at h2; omega)
                    simpa [ob, Value.ownBlock] using this
                  obtain ⟨v6, w6, hrun6, hrow6, hu6, hob6⟩ := hown5.appendAt (P := Try.prog) (t := 98) (ty := 98) (u := va) (l2 := al) Try.underlying98 hi0 hy0 hy1 hy2 rfl (by decide) hsa (by simp only [List.length_cons, List.length_nil, maxLen]; omega) (by simp only [List.length_cons, List.length_nil]; omega) (by omega)
                  have hbl := hrb.ob_lt
                  have hsb : kRight.slice.At (ob v6 ++ []) w6 [vb] bl := by
                    have hrb' : Row kRight (ob v6 ++ [W1.heap.size]) 154 w4.heap.size w5 vb bl := hrb.right_any
                    have hrd := hrb'.read (fun k hk h2 => by
                      have hk1 := hbl k hk
                      rcases List.mem_append.1 h2 with h2 | h2
                      · rcases hob6 with h | h
                        · rw [h] at h2; simp [ob, Value.ownBlock] at h2; omega
                        · rw [h] at h2; simp at h2; omega
                      · simp at h2; omega)
                    exact hrd.upd hu6 (by simp [ob, Value.ownBlock]) (fun k hk => .inl (by simp at hk; simp [hk]))
                  have h6z := hu6.size
                  obtain ⟨v7, w7, hrun7, hrow7, hu7, hob7⟩ := hrow6.appendAt (P := Try.prog) (t := 98) (ty := 98) (u := vb) (l2 := bl) Try.underlying98 hi0 hy0 hy1 hy2 rfl (by decide) hsb (by simp only [List.length_append, List.length_cons, List.length_nil, maxLen]; omega) (by simp only [List.length_append, List.length_cons, List.length_nil]; omega) (by omega)
                  have hb7 : Below w.heap.size w w7 := (HB5.out.trans (hu6.belowB HB5.out.size (fun k hk => (hown5.ob_lt k hk).1))).trans (hu7.belowB (by have := HB5.out.size; omega) (fun k hk => (hrow6.ob_lt k hk).1))
                  rw [hz1] at hrun6
                  have HR6 := Lib.hid hrun6
                  have HR7 := Lib.hid hrun7
                  have HB7 := Lib.hid hb7
                  have HROW7 := Lib.hid hrow7
                  clear hrun6 hrun7 hb7 hrow7 hu7 hob7 hsb hsa hra5 hown5 h25 hu6 hrow6 hob6 hbl hrb hi0 hy0 hy1 hy2 hb5
                  go_wp2_with (at_builtin; first
                    | refine append_step rfl _ _ _ rfl rfl rfl HR6.out ?_
                    | refine append_step rfl _ _ _ rfl rfl rfl HR7.out ?_)
                  refine bodyPost_ret (results_tmp3 rfl _ _ _) rfl ?_
                  rw [HT4.out]
                  exact ⟨_, rfl, HB7.out, HROW7.out⟩
                · have e : res = ([], 0, false) := by rw [HT3.out, if_pos (Or.inr p4)]
                  have HE := Lib.hid e
                  have q4 : (x.right != (mid : Int)) = true := by simpa using p4
                  clear e HT3 p4
                  go_wp2_with fail
                  refine bodyPost_ret (results_tmp3 rfl _ _ _) rfl ?_
                  rw [HE.out]
                  exact ⟨_, rfl, HB4.out, hn.out.upd (Upd.ofBelow HB4.out []) (by simp) (by simp) (by simp)⟩
            · have e : res = ([], 0, false) := by rw [HT2.out, if_pos (Or.inr p3)]
              have HE := Lib.hid e
              have q2 : (pc != 0) = false := by simpa using p2
              have q3 : (x.left != (at_ : Int) + 1) = true := by simpa using p3
              clear e HT2 p2 p3
              go_wp2_with fail
              refine bodyPost_ret (results_tmp3 rfl _ _ _) rfl ?_
              rw [HE.out]
              exact ⟨_, rfl, HB3.out, hn.out.upd (Upd.ofBelow HB3.out []) (by simp) (by simp) (by simp)⟩
          · have e : res = ([], 0, false) := by rw [HT2.out, if_pos (Or.inl p2)]
            have HE := Lib.hid e
            have q2 : (pc != 0) = true := by simpa using p2
            clear e HT2 p2
            go_wp2_with fail
            refine bodyPost_ret (results_tmp3 rfl _ _ _) rfl ?_
            rw [HE.out]
            exact ⟨_, rfl, HB3.out, hn.out.upd (Upd.ofBelow HB3.out []) (by simp) (by simp) (by simp)⟩
    · have ht : treeGo l dim (f + 1) at_ d = ([], 0, false) := by
        unfold treeGo
        rw [List.getElem?_eq_none (by omega)]
      rw [ht]
      clear h ht
      go_enter Try.func48, Try.ntmps48
      go_wp2_with fail
      all_goals
        refine bodyPost_ret (results_tmp3 rfl _ _ _) rfl ?_
        exact ⟨_, rfl, Below.refl _ _, hn.out⟩

end Go.Proofs.Ytfkmkhojedfccaa
