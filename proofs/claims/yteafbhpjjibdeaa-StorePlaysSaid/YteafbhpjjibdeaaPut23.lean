/-
The document's put: a file where it belongs.
-/
import Derived.Test.YteafbhpjjibdeaaRef23
import Derived.Deep.RegionHeld3
namespace Go.Proofs.Yteafbhpjjibdeaa
set_option linter.unusedVariables false
set_option linter.unusedSimpArgs false
open Go.RowKit

attribute [local go_sem] Oper.semAt_some

def lessF (f : ByteArray) (x : ByteArray × ByteArray) : Bool := Op.bytesLess x.1.toList f.toList
/-- A file put where it belongs. -/
def rput (R : List (ByteArray × ByteArray)) (f : ByteArray × ByteArray) : List (ByteArray × ByteArray) :=
  let S := sans R f.1
  let k := (S.takeWhile (lessF f.1)).length
  S.take k ++ [f] ++ S.drop k

theorem takeWhile_len {α : Type} {p : α → Bool} {l : List α} {k : Nat} (hk : k ≤ l.length) (h : ∀ y ∈ l.take k, p y = true) (h2 : ∀ y, l[k]? = some y → p y = false) : (l.takeWhile p).length = k := by
  induction l generalizing k with
  | nil => simp at hk; subst hk; rfl
  | cons a l ih =>
    cases k with
    | zero => have := h2 a rfl; simp [this]
    | succ k =>
      have ha := h a (by simp)
      simp [ha]
      exact ih (by simpa using hk) (fun y hy => h y (by simp [hy])) (fun y hy => h2 y (by simpa using hy))

theorem file_drop {M : List Nat} {w : World} {g cap : Nat} {l : List (ByteArray × ByteArray)} (h : kFile.slice.At M w [.slice (some ⟨g, 0, none⟩) l.length cap] l) {k : Nat} (hk : k ≤ l.length) :
    kFile.slice.At M w [.slice (if cap = k then some ⟨g, 0, none⟩ else some ⟨g, k * 2, none⟩) (l.length - k) (cap - k)] (l.drop k) := by
  have := Kd.slice_drop h hk
  have e : (if cap = k then some (⟨g, 0, none⟩ : Addr) else (some (⟨g, 0, none⟩ : Addr)).map (fun x => x.add (k * kFile.sz))) = (if cap = k then some ⟨g, 0, none⟩ else some ⟨g, k * 2, none⟩) := by
    split
    · rfl
    · simp [Addr.add, kFile]
      exact fun h => h.symm
  rwa [e] at this

theorem file_row_get {M : List Nat} {e : TypeId} {B : Nat} {w : World} {v : Value} {l : List (ByteArray × ByteArray)} (h : Row kFile M e B w v l) {i : Nat} {x : ByteArray × ByteArray} (hx : l[i]? = some x) :
    ∃ g cap, v = .slice (some ⟨g, 0, none⟩) l.length cap ∧ w.cell? ⟨g, i * 2, none⟩ = some (.string x.1) := by
  obtain ⟨g, cap, cs, hv, _, _, _, _, h6, h7, _⟩ := h.get hx
  obtain ⟨rfl, _⟩ := h6.out
  exact ⟨g, cap, hv, by simpa [kFile] using h7 0 _ rfl⟩

set_option maxHeartbeats 8000000 in
set_option maxRecDepth 100000 in
theorem ref_put_calls (v : Value) (R : List (ByteArray × ByteArray)) (f1 f2 : ByteArray) (M : List Nat) (w : World) (h : kFile.slice.At M w [v] R) (hlen : R.length ≤ 1000) (hf1 : f1.size ≤ maxLen) (hf2 : f2.size ≤ maxLen) :
    Calls Try.prog 48 #[v, .agg #[.string f1, .string f2]] w fun e w' => ∃ v', e = .returned v' ∧ Below w.heap.size w w' ∧ Row kFile [] 65 w.heap.size w' v' (rput R (f1, f2)) := by
  obtain ⟨ao, cap, rfl, hl, hcap⟩ := Kd.slice_form h
  unfold maxLen at hcap
  obtain ⟨W0, hW0⟩ : ∃ W0, w.alloc (.cells #[.string f1, .string f2] 65) = W0 := ⟨_, rfl⟩
  have hu0 : Upd [] w W0 := by rw [← hW0]; exact Upd.alloc [] w _
  have hr0 : W0.heap[w.heap.size]? = some (.cells #[.string f1, .string f2] 65) := by rw [← hW0]; exact Go.heap_alloc_new w _
  have hz0 := hu0.size
  have hl0 := block_lt hr0
  have HWO := Lib.hid (ref_without_calls _ R f1 M W0 (h.upd hu0 (by simp) (fun k hk => .inl hk)) hlen)
  have c0 : W0.cell? ⟨w.heap.size, 0, none⟩ = some (.string f1) := by rw [cell_of_block hr0]; rfl
  have HU0 := Lib.hid hu0
  have HR0 := Lib.hid hr0
  obtain ⟨i0, hi, hy0, hy1, hy2⟩ := info_parts A.infoFile
  have HI := Lib.hid hi
  have HZ0 := Lib.hid hy0
  have HZ1 := Lib.hid hy1
  have HZ2 := Lib.hid hy2
  have hsl : (sans R f1).length ≤ 1000 := by
    have := List.length_filter_le (fun x : ByteArray × ByteArray => !(f1 == x.1)) R
    unfold sans
    omega
  obtain ⟨out, hout⟩ : ∃ out, sans R f1 = out := ⟨_, rfl⟩
  have HP : Hid (∀ k, (out.takeWhile (lessF f1)).length = k → rput R (f1, f2) = [] ++ out.take k ++ [(f1, f2)] ++ out.drop k) := Lib.hid (fun k hk => by
    unfold rput
    simp only
    rw [hout, hk]
    simp)
  rw [hout] at HWO hsl
  obtain ⟨G, hG⟩ : ∃ G, rput R (f1, f2) = G := ⟨_, rfl⟩
  rw [hG] at HP ⊢
  have HF1 := Lib.hid hf1
  have HF2 := Lib.hid hf2
  clear h hu0 hr0 hi hy0 hy1 hy2 hG hout hlen hf1 hf2
  go_enter Try.func48, Try.ntmps48
  go_wp2_with fail
  refine HWO.out.mono ?_
  rintro e w1 ⟨v1, rfl, hb1, hr1⟩
  clear hW0 c0
  have hz1 := hb1.size
  have HB1 := Lib.hid (HU0.out.below.trans (hb1.mono hz0))
  have HX1 := Lib.hid ((hb1.block _ hl0).trans HR0.out)
  have HROW := Lib.hid hr1
  obtain ⟨a1, c1, rfl, hc11, hc12⟩ := row_form hr1
  unfold maxLen at hc12
  clear hb1 hr1 HWO
  go_wp2_with fail
  go_loopw [5] (fun j wr => ∃ (k : Nat), k ≤ out.length ∧ j = .int .i64 k ∧ Hid (∀ y ∈ out.take k, lessF f1 y = true) ∧ ∃ m, Hid (wr = w1.drewN m)) (fun j _ => out.length - (intOf j).toNat)
  case atStart => exact ⟨0, Nat.zero_le _, rfl, Lib.hid (by simp), 0, rfl⟩
  case round =>
    obtain ⟨k, hk, rfl, hbel, m, hw2⟩ := hrel
    have hx0 : wr.cell? ⟨w.heap.size, 0, none⟩ = some (.string f1) := by rw [hw2.out]; show w1.cell? _ = _; rw [cell_of_block HX1.out]; rfl
    have HW : Hid (∀ q, wr.drewN q = w1.drewN (m + q)) := Lib.hid (fun q => by rw [hw2.out]; simp only [World.drewN_drewN])
    by_cases hk2 : k < out.length
    · obtain ⟨y, hy⟩ : ∃ y, out[k]? = some y := ⟨_, List.getElem?_eq_getElem hk2⟩
      obtain ⟨g, cap3, hv3, hcg⟩ := file_row_get HROW.out hy
      simp at hv3
      obtain ⟨rfl, rfl⟩ := hv3
      have hcg2 : wr.cell? ⟨g, k * 2, none⟩ = some (.string y.1) := by rw [hw2.out]; exact hcg
      have HY := Lib.hid hy
      have hi1 : (k : Int) < (out.length : Int) := by omega
      have hi0 : (0 : Int) ≤ (k : Int) := by omega
      clear hy hcg
      cases hyx : Op.bytesLess y.1.toList f1.toList with
      | true =>
        go_wp2_with fail
        go_quiet (fail)
        go_wp2_with fail
        go_roundw
        case rel => exact ⟨k + 1, by omega, by go_num, Lib.hid (by
          intro z hz
          rw [take_snoc' HY.out] at hz
          rcases List.mem_append.1 hz with hz | hz
          · exact hbel.out z hz
          · simp at hz; subst hz; exact hyx), _, HW.out _⟩
        case measure => simp [intOf]; omega
      | false =>
        have hk' := takeWhile_len hk hbel.out (fun z hz => by rw [HY.out] at hz; cases hz; exact hyx)
        have HGG := Lib.hid (HP.out k hk')
        clear hk'
        go_wp2_with fail
        go_quiet (fail)
        go_wp2_with fail
        obtain ⟨W1, hW1⟩ : ∃ W1, wr.drewN nq = W1 := ⟨_, rfl⟩
        have hu1 : Upd [] w1 W1 := by rw [← hW1, HW.out]; exact Upd.drewN [] w1 _
        rw [hW1]
        have src0 := Row.read HROW.out (by simp)
        have src1 : ∀ W' N', Upd [] W1 W' → (∀ k, k ∈ N' → W1.heap.size ≤ k) → kFile.slice.At N' W' [.slice (some ⟨g, 0, none⟩) k c1] (out.take k) := fun W' N' hu hN =>
          (Kd.slice_take src0 hk).upd (hu1.trans hu) (by simp) (fun k hk => .inr (Nat.le_trans hu1.size (hN k hk)))
        have src2 : ∀ W' N', Upd [] W1 W' → (∀ k, k ∈ N' → W1.heap.size ≤ k) → kFile.slice.At N' W' [.slice (if c1 = k then some ⟨g, 0, none⟩ else some ⟨g, k * 2, none⟩) (out.length - k) (c1 - k)] (out.drop k) := fun W' N' hu hN =>
          (file_drop src0 hk).upd (hu1.trans hu) (by simp) (fun k hk => .inr (Nat.le_trans hu1.size (hN k hk)))
        have SRC1 := Lib.hid src1
        have SRC2 := Lib.hid src2
        have hx1 := upd_far hu1 HX1.out (by simp)
        have e0 : W1.cell? ⟨w.heap.size, 0, none⟩ = some (.string f1) := by rw [cell_of_block hx1]; rfl
        have e1 : W1.cell? ⟨w.heap.size, 1, none⟩ = some (.string f2) := by rw [cell_of_block hx1]; rfl
        have hxl := block_lt hx1
        have hBW : w.heap.size ≤ W1.heap.size := by omega
        have hk0 : (0 : Int) ≤ (k : Int) := by omega
        have hkc : (k : Int) ≤ (c1 : Int) := by omega
        have hkl : (k : Int) ≤ (out.length : Int) := by omega
        have HU1 := Lib.hid hu1
        have KC : Hid (∀ W, Upd [] W1 W → W.cell? ⟨w.heap.size, 0, none⟩ = some (.string f1) ∧ W.cell? ⟨w.heap.size, 1, none⟩ = some (.string f2)) := Lib.hid (fun W hu => ⟨(hu.cell (a := ⟨w.heap.size, 0, none⟩) hxl (by simp)).trans e0, (hu.cell (a := ⟨w.heap.size, 1, none⟩) hxl (by simp)).trans e1⟩)
        clear src0 src1 src2 hW1 hu1 hx1 hx0
        go_region_held3 (fun w' => w'.cell? ⟨w.heap.size, 0, none⟩ = some (.string f1) ∧ w'.cell? ⟨w.heap.size, 1, none⟩ = some (.string f2))
          (first | exact KC.out _ hU3 | exact KC.out _ (hU2.trans (Upd.alloc _ _ _)) | exact KC.out _ hU2 | exact KC.out _ (hU1.trans (Upd.alloc _ _ _)) | exact KC.out _ hU1 | exact KC.out _ (Upd.drew _ _) | exact KC.out _ ((Upd.alloc _ _ _).trans (Upd.drew _ _)) | exact KC.out _ ((Upd.drew _ _).trans (Upd.alloc _ _ _)) | exact KC.out _ (((Upd.drew _ _).trans (Upd.alloc _ _ _)).trans (Upd.alloc _ _ _)) | exact KC.out _ (((Upd.alloc _ _ _).trans (Upd.alloc _ _ _)).trans (Upd.drew _ _)) | go_keep)
          (first
            | (refine step_row_append rfl (.tmp 26) (.tmp 29) _ rfl (K := kFile) (M := []) (B := W1.heap.size) (l := []) (l2 := out.take k) (v := .slice (some ⟨_, 0, none⟩) 0 0) (u := .slice _ k c1) rfl rfl ?_ Try.underlying49 HI.out HZ0.out HZ1.out HZ2.out rfl (by decide) ?_ ?_ ?_ ?_ ?_
               · exact row_new (by (first | exact Go.heap_alloc_new _ _ | exact alloc2_snd _ _ _ | exact alloc2_fst _ _ _ | (refine (Below.heap_alloc _ _ _ (by simp)).trans ?_; exact Go.heap_alloc_new _ _))) (by (first | omega | (simp; omega) | (simp; done)))
               · exact SRC1.out _ _ (by (first | exact Upd.refl _ _ | exact (Upd.alloc _ _ _).trans (Upd.drew _ _) | exact ((Upd.alloc _ _ _).trans (Upd.alloc _ _ _)).trans (Upd.drew _ _))) (by simp [ob, Value.ownBlock])
               · (simp only [List.nil_append, List.append_nil, List.length_append, List.length_cons, List.length_nil, List.length_take, List.length_drop, maxLen]; omega)
               · (simp only [List.nil_append, List.append_nil, List.length_append, List.length_cons, List.length_nil, List.length_take, List.length_drop, maxLen]; omega)
               · (first | omega | (simp; omega) | (simp; done))
               intro v1 w1 hr1 hv1 ho1
               have hU1 : Upd [] W1 w1 := Upd.trans' (by (first | exact Upd.refl _ _ | exact (Upd.alloc _ _ _).trans (Upd.drew _ _) | exact ((Upd.alloc _ _ _).trans (Upd.alloc _ _ _)).trans (Upd.drew _ _))) hv1 (by simp [ob, Value.ownBlock]))
            | (refine step_row_append rfl (.tmp 30) (.tmp 32) _ rfl (K := kFile) (M := []) (B := W1.heap.size) (l := [] ++ out.take k) (l2 := [(f1, f2)]) (v := v1) (u := .slice (some ⟨_, 0, none⟩) 1 1) rfl rfl ?_ Try.underlying49 HI.out HZ0.out HZ1.out HZ2.out rfl (by decide) ?_ ?_ ?_ ?_ ?_
               · exact hr1.upd (Upd.alloc [] w1 _) (by simp) (by simp) (by simp)
               · exact one_file (x := (f1, f2)) (Go.heap_alloc_new w1 _) (fun hm => by have hq := (hr1.ob_lt _ (by simpa using hm)).2; omega) HF1.out HF2.out
               · (simp only [List.nil_append, List.append_nil, List.length_append, List.length_cons, List.length_nil, List.length_take, List.length_drop, maxLen]; omega)
               · (simp only [List.nil_append, List.append_nil, List.length_append, List.length_cons, List.length_nil, List.length_take, List.length_drop, maxLen]; omega)
               · (have := hU1.size; (first | omega | (simp; omega) | (simp; done)))
               intro v2 w2 hr2 hv2 ho2
               have hU2 : Upd [] W1 w2 := (hU1.trans (Upd.alloc [] w1 _)).trans' hv2 (fun k hk => .inr (hr1.ob_lt k hk).1))
            | (refine step_row_append rfl (.tmp 30) (.tmp 32) _ rfl (K := kFile) (M := []) (B := W1.heap.size) (l := [] ++ out.take k) (l2 := [(f1, f2)]) (v := v1) (w := w1) (u := .slice (some ⟨_, 0, none⟩) 1 1) rfl rfl ?_ Try.underlying49 HI.out HZ0.out HZ1.out HZ2.out rfl (by decide) ?_ ?_ ?_ ?_ ?_
               · exact hr1
               · exact one_file (x := (f1, f2)) ((hv1.block _ (by (first | omega | (simp; omega) | (simp; done))) (by simp [ob, Value.ownBlock])).trans (by (first | exact Go.heap_alloc_new _ _ | exact alloc2_snd _ _ _ | exact alloc2_fst _ _ _ | (refine (Below.heap_alloc _ _ _ (by simp)).trans ?_; exact Go.heap_alloc_new _ _)))) (fun hm => by
                   rcases ho1 with h | h
                   · rw [List.append_nil, h] at hm; simp [ob, Value.ownBlock] at hm
                   · rw [List.append_nil, h] at hm; simp at hm <;> omega) HF1.out HF2.out
               · (simp only [List.nil_append, List.append_nil, List.length_append, List.length_cons, List.length_nil, List.length_take, List.length_drop, maxLen]; omega)
               · (simp only [List.nil_append, List.append_nil, List.length_append, List.length_cons, List.length_nil, List.length_take, List.length_drop, maxLen]; omega)
               · exact hU1.size
               intro v2 w2 hr2 hv2 ho2
               have hU2 : Upd [] W1 w2 := hU1.trans' hv2 (fun k hk => .inr (hr1.ob_lt k hk).1))
            | (refine step_row_append rfl (.tmp 33) (.tmp 36) _ rfl (K := kFile) (M := []) (B := W1.heap.size) (l := [] ++ out.take k ++ [(f1, f2)]) (l2 := out.drop k) (v := v2) rfl rfl ?_ Try.underlying49 HI.out HZ0.out HZ1.out HZ2.out rfl (by decide) ?_ ?_ ?_ ?_ ?_
               · exact hr2
               · (have hs2 := SRC2.out w2 (ob v2 ++ []) hU2 (fun k hk => (hr2.ob_lt k (by simpa using hk)).1); simpa [Act.eval] using hs2)
               · (simp only [List.nil_append, List.append_nil, List.length_append, List.length_cons, List.length_nil, List.length_take, List.length_drop, maxLen]; omega)
               · (simp only [List.nil_append, List.append_nil, List.length_append, List.length_cons, List.length_nil, List.length_take, List.length_drop, maxLen]; omega)
               · exact hU2.size
               intro v3 w3 hr3 hv3 ho3
               have hU3 : Upd [] W1 w3 := hU2.trans' hv3 (fun k hk => .inr (hr2.ob_lt k hk).1)))
        all_goals
          go_wp2_with fail
          all_goals
            go_ret
            exact ⟨_, rfl, HB1.out.trans ((HU1.out.trans hU3).below.mono HB1.out.size), by rw [HGG.out]; exact hr3.base hBW⟩
    · have hkl0 : k = out.length := by omega
      have hk' := takeWhile_len (p := lessF f1) hk hbel.out (fun z hz => by rw [hkl0] at hz; simp at hz)
      have HGG := Lib.hid (HP.out k hk')
      have hge : ¬ (k : Int) < (out.length : Int) := by omega
      have HKL := Lib.hid hkl0
      clear hk' hkl0
      go_wp2_with fail
      go_quiet (fail)
      go_wp2_with fail
      clear hge
      rcases HROW.out.form with ⟨hv4, hnil⟩ | ⟨g, cap4, hv4, _, _, _, _⟩
      · simp at hv4
        obtain ⟨rfl, _, rfl⟩ := hv4
        subst hnil
        obtain rfl : k = 0 := by have := HKL.out; simpa using this
        obtain ⟨W1, hW1⟩ : ∃ W1, wr.drewN nq = W1 := ⟨_, rfl⟩
        have hu1 : Upd [] w1 W1 := by rw [← hW1, HW.out]; exact Upd.drewN [] w1 _
        rw [hW1]
        have SRC1 := Lib.hid (fun (W' : World) (N' : List Nat) (_ : Upd [] W1 W') (_ : ∀ k, k ∈ N' → W1.heap.size ≤ k) => Kd.slice_nil kFile N' W' none 0 (by simp [maxLen]))
        have SRC2 := SRC1
        have hx1 := upd_far hu1 HX1.out (by simp)
        have e0 : W1.cell? ⟨w.heap.size, 0, none⟩ = some (.string f1) := by rw [cell_of_block hx1]; rfl
        have e1 : W1.cell? ⟨w.heap.size, 1, none⟩ = some (.string f2) := by rw [cell_of_block hx1]; rfl
        have hxl := block_lt hx1
        have hBW : w.heap.size ≤ W1.heap.size := by omega
        have HU1 := Lib.hid hu1
        have KC : Hid (∀ W, Upd [] W1 W → W.cell? ⟨w.heap.size, 0, none⟩ = some (.string f1) ∧ W.cell? ⟨w.heap.size, 1, none⟩ = some (.string f2)) := Lib.hid (fun W hu => ⟨(hu.cell (a := ⟨w.heap.size, 0, none⟩) hxl (by simp)).trans e0, (hu.cell (a := ⟨w.heap.size, 1, none⟩) hxl (by simp)).trans e1⟩)
        clear hW1 hu1 hx1 hx0
        go_region_held3 (fun w' => w'.cell? ⟨w.heap.size, 0, none⟩ = some (.string f1) ∧ w'.cell? ⟨w.heap.size, 1, none⟩ = some (.string f2))
          (first | exact KC.out _ hU3 | exact KC.out _ (hU2.trans (Upd.alloc _ _ _)) | exact KC.out _ hU2 | exact KC.out _ (hU1.trans (Upd.alloc _ _ _)) | exact KC.out _ hU1 | exact KC.out _ (Upd.drew _ _) | exact KC.out _ ((Upd.alloc _ _ _).trans (Upd.drew _ _)) | exact KC.out _ ((Upd.drew _ _).trans (Upd.alloc _ _ _)) | exact KC.out _ (((Upd.drew _ _).trans (Upd.alloc _ _ _)).trans (Upd.alloc _ _ _)) | exact KC.out _ (((Upd.alloc _ _ _).trans (Upd.alloc _ _ _)).trans (Upd.drew _ _)) | go_keep)
          (first
            | (refine step_row_append rfl (.tmp 26) (.tmp 29) _ rfl (K := kFile) (M := []) (B := W1.heap.size) (l := []) (l2 := ([] : List (ByteArray × ByteArray))) (v := .slice (some ⟨_, 0, none⟩) 0 0) (u := .slice none 0 0) rfl rfl ?_ Try.underlying49 HI.out HZ0.out HZ1.out HZ2.out rfl (by decide) ?_ ?_ ?_ ?_ ?_
               · exact row_new (by (first | exact Go.heap_alloc_new _ _ | exact alloc2_snd _ _ _ | exact alloc2_fst _ _ _ | (refine (Below.heap_alloc _ _ _ (by simp)).trans ?_; exact Go.heap_alloc_new _ _))) (by (first | omega | (simp; omega) | (simp; done)))
               · exact SRC1.out _ _ (by (first | exact Upd.refl _ _ | exact (Upd.alloc _ _ _).trans (Upd.drew _ _) | exact ((Upd.alloc _ _ _).trans (Upd.alloc _ _ _)).trans (Upd.drew _ _))) (by simp [ob, Value.ownBlock])
               · (simp only [List.nil_append, List.append_nil, List.length_append, List.length_cons, List.length_nil, List.length_take, List.length_drop, maxLen]; omega)
               · (simp only [List.nil_append, List.append_nil, List.length_append, List.length_cons, List.length_nil, List.length_take, List.length_drop, maxLen]; omega)
               · (first | omega | (simp; omega) | (simp; done))
               intro v1 w1 hr1 hv1 ho1
               have hU1 : Upd [] W1 w1 := Upd.trans' (by (first | exact Upd.refl _ _ | exact (Upd.alloc _ _ _).trans (Upd.drew _ _) | exact ((Upd.alloc _ _ _).trans (Upd.alloc _ _ _)).trans (Upd.drew _ _))) hv1 (by simp [ob, Value.ownBlock]))
            | (refine step_row_append rfl (.tmp 30) (.tmp 32) _ rfl (K := kFile) (M := []) (B := W1.heap.size) (l := [] ++ ([] : List (ByteArray × ByteArray))) (l2 := [(f1, f2)]) (v := v1) (u := .slice (some ⟨_, 0, none⟩) 1 1) rfl rfl ?_ Try.underlying49 HI.out HZ0.out HZ1.out HZ2.out rfl (by decide) ?_ ?_ ?_ ?_ ?_
               · exact hr1.upd (Upd.alloc [] w1 _) (by simp) (by simp) (by simp)
               · exact one_file (x := (f1, f2)) (Go.heap_alloc_new w1 _) (fun hm => by have hq := (hr1.ob_lt _ (by simpa using hm)).2; omega) HF1.out HF2.out
               · (simp only [List.nil_append, List.append_nil, List.length_append, List.length_cons, List.length_nil, List.length_take, List.length_drop, maxLen]; omega)
               · (simp only [List.nil_append, List.append_nil, List.length_append, List.length_cons, List.length_nil, List.length_take, List.length_drop, maxLen]; omega)
               · (have := hU1.size; (first | omega | (simp; omega) | (simp; done)))
               intro v2 w2 hr2 hv2 ho2
               have hU2 : Upd [] W1 w2 := (hU1.trans (Upd.alloc [] w1 _)).trans' hv2 (fun k hk => .inr (hr1.ob_lt k hk).1))
            | (refine step_row_append rfl (.tmp 30) (.tmp 32) _ rfl (K := kFile) (M := []) (B := W1.heap.size) (l := [] ++ ([] : List (ByteArray × ByteArray))) (l2 := [(f1, f2)]) (v := v1) (w := w1) (u := .slice (some ⟨_, 0, none⟩) 1 1) rfl rfl ?_ Try.underlying49 HI.out HZ0.out HZ1.out HZ2.out rfl (by decide) ?_ ?_ ?_ ?_ ?_
               · exact hr1
               · exact one_file (x := (f1, f2)) ((hv1.block _ (by (first | omega | (simp; omega) | (simp; done))) (by simp [ob, Value.ownBlock])).trans (by (first | exact Go.heap_alloc_new _ _ | exact alloc2_snd _ _ _ | exact alloc2_fst _ _ _ | (refine (Below.heap_alloc _ _ _ (by simp)).trans ?_; exact Go.heap_alloc_new _ _)))) (fun hm => by
                   rcases ho1 with h | h
                   · rw [List.append_nil, h] at hm; simp [ob, Value.ownBlock] at hm
                   · rw [List.append_nil, h] at hm; simp at hm <;> omega) HF1.out HF2.out
               · (simp only [List.nil_append, List.append_nil, List.length_append, List.length_cons, List.length_nil, List.length_take, List.length_drop, maxLen]; omega)
               · (simp only [List.nil_append, List.append_nil, List.length_append, List.length_cons, List.length_nil, List.length_take, List.length_drop, maxLen]; omega)
               · exact hU1.size
               intro v2 w2 hr2 hv2 ho2
               have hU2 : Upd [] W1 w2 := hU1.trans' hv2 (fun k hk => .inr (hr1.ob_lt k hk).1))
            | (refine step_row_append rfl (.tmp 33) (.tmp 36) _ rfl (K := kFile) (M := []) (B := W1.heap.size) (l := [] ++ ([] : List (ByteArray × ByteArray)) ++ [(f1, f2)]) (l2 := ([] : List (ByteArray × ByteArray))) (v := v2) rfl rfl ?_ Try.underlying49 HI.out HZ0.out HZ1.out HZ2.out rfl (by decide) ?_ ?_ ?_ ?_ ?_
               · exact hr2
               · (have hs2 := SRC2.out w2 (ob v2 ++ []) hU2 (fun k hk => (hr2.ob_lt k (by simpa using hk)).1); simpa [Act.eval] using hs2)
               · (simp only [List.nil_append, List.append_nil, List.length_append, List.length_cons, List.length_nil, List.length_take, List.length_drop, maxLen]; omega)
               · (simp only [List.nil_append, List.append_nil, List.length_append, List.length_cons, List.length_nil, List.length_take, List.length_drop, maxLen]; omega)
               · exact hU2.size
               intro v3 w3 hr3 hv3 ho3
               have hU3 : Upd [] W1 w3 := hU2.trans' hv3 (fun k hk => .inr (hr2.ob_lt k hk).1)))
        all_goals
          go_wp2_with fail
          all_goals
            go_ret
            exact ⟨_, rfl, HB1.out.trans ((HU1.out.trans hU3).below.mono HB1.out.size), by rw [HGG.out]; simpa using hr3.base hBW⟩
      · simp at hv4
        obtain ⟨rfl, rfl⟩ := hv4
        obtain ⟨W1, hW1⟩ : ∃ W1, wr.drewN nq = W1 := ⟨_, rfl⟩
        have hu1 : Upd [] w1 W1 := by rw [← hW1, HW.out]; exact Upd.drewN [] w1 _
        rw [hW1]
        have src0 := Row.read HROW.out (by simp)
        have src1 : ∀ W' N', Upd [] W1 W' → (∀ k, k ∈ N' → W1.heap.size ≤ k) → kFile.slice.At N' W' [.slice (some ⟨g, 0, none⟩) k c1] (out.take k) := fun W' N' hu hN =>
          (Kd.slice_take src0 hk).upd (hu1.trans hu) (by simp) (fun k hk => .inr (Nat.le_trans hu1.size (hN k hk)))
        have src2 : ∀ W' N', Upd [] W1 W' → (∀ k, k ∈ N' → W1.heap.size ≤ k) → kFile.slice.At N' W' [.slice (if c1 = k then some ⟨g, 0, none⟩ else some ⟨g, k * 2, none⟩) (out.length - k) (c1 - k)] (out.drop k) := fun W' N' hu hN =>
          (file_drop src0 hk).upd (hu1.trans hu) (by simp) (fun k hk => .inr (Nat.le_trans hu1.size (hN k hk)))
        have SRC1 := Lib.hid src1
        have SRC2 := Lib.hid src2
        have hx1 := upd_far hu1 HX1.out (by simp)
        have e0 : W1.cell? ⟨w.heap.size, 0, none⟩ = some (.string f1) := by rw [cell_of_block hx1]; rfl
        have e1 : W1.cell? ⟨w.heap.size, 1, none⟩ = some (.string f2) := by rw [cell_of_block hx1]; rfl
        have hxl := block_lt hx1
        have hBW : w.heap.size ≤ W1.heap.size := by omega
        have hk0 : (0 : Int) ≤ (k : Int) := by omega
        have hkc : (k : Int) ≤ (c1 : Int) := by omega
        have hkl : (k : Int) ≤ (out.length : Int) := by omega
        have HU1 := Lib.hid hu1
        have KC : Hid (∀ W, Upd [] W1 W → W.cell? ⟨w.heap.size, 0, none⟩ = some (.string f1) ∧ W.cell? ⟨w.heap.size, 1, none⟩ = some (.string f2)) := Lib.hid (fun W hu => ⟨(hu.cell (a := ⟨w.heap.size, 0, none⟩) hxl (by simp)).trans e0, (hu.cell (a := ⟨w.heap.size, 1, none⟩) hxl (by simp)).trans e1⟩)
        clear src0 src1 src2 hW1 hu1 hx1 hx0
        go_region_held3 (fun w' => w'.cell? ⟨w.heap.size, 0, none⟩ = some (.string f1) ∧ w'.cell? ⟨w.heap.size, 1, none⟩ = some (.string f2))
          (first | exact KC.out _ hU3 | exact KC.out _ (hU2.trans (Upd.alloc _ _ _)) | exact KC.out _ hU2 | exact KC.out _ (hU1.trans (Upd.alloc _ _ _)) | exact KC.out _ hU1 | exact KC.out _ (Upd.drew _ _) | exact KC.out _ ((Upd.alloc _ _ _).trans (Upd.drew _ _)) | exact KC.out _ ((Upd.drew _ _).trans (Upd.alloc _ _ _)) | exact KC.out _ (((Upd.drew _ _).trans (Upd.alloc _ _ _)).trans (Upd.alloc _ _ _)) | exact KC.out _ (((Upd.alloc _ _ _).trans (Upd.alloc _ _ _)).trans (Upd.drew _ _)) | go_keep)
          (first
            | (refine step_row_append rfl (.tmp 26) (.tmp 29) _ rfl (K := kFile) (M := []) (B := W1.heap.size) (l := []) (l2 := out.take k) (v := .slice (some ⟨_, 0, none⟩) 0 0) (u := .slice _ k c1) rfl rfl ?_ Try.underlying49 HI.out HZ0.out HZ1.out HZ2.out rfl (by decide) ?_ ?_ ?_ ?_ ?_
               · exact row_new (by (first | exact Go.heap_alloc_new _ _ | exact alloc2_snd _ _ _ | exact alloc2_fst _ _ _ | (refine (Below.heap_alloc _ _ _ (by simp)).trans ?_; exact Go.heap_alloc_new _ _))) (by (first | omega | (simp; omega) | (simp; done)))
               · exact SRC1.out _ _ (by (first | exact Upd.refl _ _ | exact (Upd.alloc _ _ _).trans (Upd.drew _ _) | exact ((Upd.alloc _ _ _).trans (Upd.alloc _ _ _)).trans (Upd.drew _ _))) (by simp [ob, Value.ownBlock])
               · (simp only [List.nil_append, List.append_nil, List.length_append, List.length_cons, List.length_nil, List.length_take, List.length_drop, maxLen]; omega)
               · (simp only [List.nil_append, List.append_nil, List.length_append, List.length_cons, List.length_nil, List.length_take, List.length_drop, maxLen]; omega)
               · (first | omega | (simp; omega) | (simp; done))
               intro v1 w1 hr1 hv1 ho1
               have hU1 : Upd [] W1 w1 := Upd.trans' (by (first | exact Upd.refl _ _ | exact (Upd.alloc _ _ _).trans (Upd.drew _ _) | exact ((Upd.alloc _ _ _).trans (Upd.alloc _ _ _)).trans (Upd.drew _ _))) hv1 (by simp [ob, Value.ownBlock]))
            | (refine step_row_append rfl (.tmp 30) (.tmp 32) _ rfl (K := kFile) (M := []) (B := W1.heap.size) (l := [] ++ out.take k) (l2 := [(f1, f2)]) (v := v1) (u := .slice (some ⟨_, 0, none⟩) 1 1) rfl rfl ?_ Try.underlying49 HI.out HZ0.out HZ1.out HZ2.out rfl (by decide) ?_ ?_ ?_ ?_ ?_
               · exact hr1.upd (Upd.alloc [] w1 _) (by simp) (by simp) (by simp)
               · exact one_file (x := (f1, f2)) (Go.heap_alloc_new w1 _) (fun hm => by have hq := (hr1.ob_lt _ (by simpa using hm)).2; omega) HF1.out HF2.out
               · (simp only [List.nil_append, List.append_nil, List.length_append, List.length_cons, List.length_nil, List.length_take, List.length_drop, maxLen]; omega)
               · (simp only [List.nil_append, List.append_nil, List.length_append, List.length_cons, List.length_nil, List.length_take, List.length_drop, maxLen]; omega)
               · (have := hU1.size; (first | omega | (simp; omega) | (simp; done)))
               intro v2 w2 hr2 hv2 ho2
               have hU2 : Upd [] W1 w2 := (hU1.trans (Upd.alloc [] w1 _)).trans' hv2 (fun k hk => .inr (hr1.ob_lt k hk).1))
            | (refine step_row_append rfl (.tmp 30) (.tmp 32) _ rfl (K := kFile) (M := []) (B := W1.heap.size) (l := [] ++ out.take k) (l2 := [(f1, f2)]) (v := v1) (w := w1) (u := .slice (some ⟨_, 0, none⟩) 1 1) rfl rfl ?_ Try.underlying49 HI.out HZ0.out HZ1.out HZ2.out rfl (by decide) ?_ ?_ ?_ ?_ ?_
               · exact hr1
               · exact one_file (x := (f1, f2)) ((hv1.block _ (by (first | omega | (simp; omega) | (simp; done))) (by simp [ob, Value.ownBlock])).trans (by (first | exact Go.heap_alloc_new _ _ | exact alloc2_snd _ _ _ | exact alloc2_fst _ _ _ | (refine (Below.heap_alloc _ _ _ (by simp)).trans ?_; exact Go.heap_alloc_new _ _)))) (fun hm => by
                   rcases ho1 with h | h
                   · rw [List.append_nil, h] at hm; simp [ob, Value.ownBlock] at hm
                   · rw [List.append_nil, h] at hm; simp at hm <;> omega) HF1.out HF2.out
               · (simp only [List.nil_append, List.append_nil, List.length_append, List.length_cons, List.length_nil, List.length_take, List.length_drop, maxLen]; omega)
               · (simp only [List.nil_append, List.append_nil, List.length_append, List.length_cons, List.length_nil, List.length_take, List.length_drop, maxLen]; omega)
               · exact hU1.size
               intro v2 w2 hr2 hv2 ho2
               have hU2 : Upd [] W1 w2 := hU1.trans' hv2 (fun k hk => .inr (hr1.ob_lt k hk).1))
            | (refine step_row_append rfl (.tmp 33) (.tmp 36) _ rfl (K := kFile) (M := []) (B := W1.heap.size) (l := [] ++ out.take k ++ [(f1, f2)]) (l2 := out.drop k) (v := v2) rfl rfl ?_ Try.underlying49 HI.out HZ0.out HZ1.out HZ2.out rfl (by decide) ?_ ?_ ?_ ?_ ?_
               · exact hr2
               · (have hs2 := SRC2.out w2 (ob v2 ++ []) hU2 (fun k hk => (hr2.ob_lt k (by simpa using hk)).1); simpa [Act.eval] using hs2)
               · (simp only [List.nil_append, List.append_nil, List.length_append, List.length_cons, List.length_nil, List.length_take, List.length_drop, maxLen]; omega)
               · (simp only [List.nil_append, List.append_nil, List.length_append, List.length_cons, List.length_nil, List.length_take, List.length_drop, maxLen]; omega)
               · exact hU2.size
               intro v3 w3 hr3 hv3 ho3
               have hU3 : Upd [] W1 w3 := hU2.trans' hv3 (fun k hk => .inr (hr2.ob_lt k hk).1)))
        all_goals
          go_wp2_with fail
          all_goals
            go_ret
            exact ⟨_, rfl, HB1.out.trans ((HU1.out.trans hU3).below.mono HB1.out.size), by rw [HGG.out]; exact hr3.base hBW⟩

end Go.Proofs.Yteafbhpjjibdeaa
