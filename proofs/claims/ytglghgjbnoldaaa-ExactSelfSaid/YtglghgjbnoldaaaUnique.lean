/-
The document's answers: ref09.Unique.
-/
import Derived.Test.YtglghgjbnoldaaaRefA
import Derived.Deep.RegionHeld3
import Derived.Deep.AppendLies
namespace Go.Proofs.Ytglghgjbnoldaaa
set_option linter.unusedVariables false
set_option linter.unusedSimpArgs false
open Go.RowKit

theorem int_row_get {k : IntKind} {M : List Nat} {e : TypeId} {B : Nat} {w : World} {v : Value} {l : List Int} (h : Row (Kd.int k) M e B w v l) {i : Nat} {x : Int} (hx : l[i]? = some x) :
    ∃ g cap, v = .slice (some ⟨g, 0, none⟩) l.length cap ∧ B ≤ g ∧ g < w.heap.size ∧ l.length ≤ cap ∧ cap ≤ maxLen ∧ w.cell? ⟨g, i, none⟩ = some (.int k x) := by
  obtain ⟨g, cap, cs, h1, h2, h3, h4, h5, h6, h7, _⟩ := h.get hx
  obtain ⟨rfl, _⟩ := at_int h6
  exact ⟨g, cap, h1, h2, h3, h4, h5, by simpa [Kd.int] using h7 0 _ rfl⟩

theorem row_form {α : Type} {K : Kd α} {M : List Nat} {e : TypeId} {B : Nat} {w : World} {v : Value} {l : List α} (h : Row K M e B w v l) : ∃ ao cap, v = .slice ao l.length cap ∧ l.length ≤ cap ∧ cap ≤ maxLen := by
  rcases h.form with ⟨rfl, rfl⟩ | ⟨g, cap, rfl, _, _, h1, h2⟩
  · exact ⟨none, 0, rfl, by simp, by simp [maxLen]⟩
  · exact ⟨_, cap, rfl, h1, h2⟩

/-- A number put in its place, once. -/
def uins (out : List Int) (x : Int) : List Int :=
  let k := (out.takeWhile (fun y => decide (y < x))).length
  if out[k]? = some x then out else out.take k ++ [x] ++ out.drop k
def uniq (l : List Int) : List Int := l.foldl uins []

theorem uins_len (out : List Int) (x : Int) : (uins out x).length ≤ out.length + 1 := by
  unfold uins
  simp only
  split
  · omega
  · simp; omega
theorem uniq_len (l : List Int) : (uniq l).length ≤ l.length := by
  have : ∀ (l out : List Int), (l.foldl uins out).length ≤ out.length + l.length := by
    intro l
    induction l with
    | nil => intro out; simp
    | cons x l ih => intro out; have := ih (uins out x); have := uins_len out x; simp; omega
  have := this l []
  simpa [uniq] using this
theorem uniq_snoc {l : List Int} {k : Nat} {x : Int} (hx : l[k]? = some x) : uniq (l.take (k + 1)) = uins (uniq (l.take k)) x := by
  rw [take_snoc' hx]; simp [uniq, List.foldl_append]
theorem takeWhile_at {out : List Int} {x : Int} {k : Nat} (hk : k ≤ out.length) (h : ∀ y ∈ out.take k, y < x) (h2 : ∀ y, out[k]? = some y → ¬ y < x) : (out.takeWhile (fun y => decide (y < x))).length = k := by
  induction out generalizing k with
  | nil => simp at hk; subst hk; rfl
  | cons a out ih =>
    cases k with
    | zero => have := h2 a rfl; simp [this]
    | succ k =>
      have ha := h a (by simp)
      simp [ha]
      exact ih (by simpa using hk) (fun y hy => h y (by simp [hy])) (fun y hy => h2 y (by simpa using hy))

theorem alloc2_snd (w : World) (o1 o2 : Obj) : ((w.alloc o1).alloc o2).heap[w.heap.size + 1]? = some o2 := by
  have := Go.heap_alloc_new (w.alloc o1) o2
  simpa using this
theorem alloc2_fst (w : World) (o1 o2 : Obj) : ((w.alloc o1).alloc o2).heap[w.heap.size]? = some o1 :=
  (Below.heap_alloc _ _ _ (by simp)).trans (Go.heap_alloc_new _ _)


theorem ints_drop {k' : IntKind} {N : List Nat} {w : World} {g n cap : Nat} {l : List Int} (h : (Kd.int k').slice.At N w [.slice (some ⟨g, 0, none⟩) n cap] l) {k : Nat} (hk : k ≤ l.length) :
    (Kd.int k').slice.At N w [.slice (if cap = k then some ⟨g, 0, none⟩ else some ⟨g, k, none⟩) (n - k) (cap - k)] (l.drop k) := by
  have e := Kd.slice_drop h hk
  have ea : (⟨g, 0, none⟩ : Addr).add (k * (Kd.int k').sz) = ⟨g, k, none⟩ := by
    show Addr.add _ (k * 1) = _
    unfold Addr.add; split <;> simp_all
  simp only [Option.map_some, ea] at e
  exact e

set_option maxRecDepth 100000 in
set_option maxHeartbeats 2000000 in
theorem ref_unique_calls (v : Value) (l : List Int) (M : List Nat) (w : World) (h : (Kd.int .i64).slice.At M w [v] l) (hlen : l.length ≤ 1099511627776) :
    Calls Try.prog 51 #[v] w fun e w' => ∃ v', e = .returned v' ∧ Below w.heap.size w w' ∧ Row (Kd.int .i64) [] 3 w.heap.size w' v' (uniq l) := by
  obtain ⟨ao, cap, rfl, hl, hcap⟩ := Kd.slice_form h
  have H := Lib.hid h
  clear h
  unfold maxLen at hcap
  obtain ⟨i0, hi, hz0, hz1, hz2⟩ := info_parts A.infoInt
  have HI := Lib.hid hi
  have HZ0 := Lib.hid hz0
  have HZ1 := Lib.hid hz1
  have HZ2 := Lib.hid hz2
  clear hi hz0 hz1 hz2
  go_enter Try.func51, Try.ntmps51
  go_wp2
  go_loopw [4, 3] (fun i s wr => ∃ (k : Nat), k ≤ l.length ∧ i = .int .i64 k ∧ Hid (Row (Kd.int .i64) [] 3 w.heap.size wr s (uniq (l.take k))) ∧ Hid (Below w.heap.size w wr)) (fun i _ _ => l.length - (intOf i).toNat)
  case atStart => exact ⟨0, by omega, rfl, Row.nil _ _ _ _ _, Below.refl _ _⟩
  case round =>
    obtain ⟨i, hi, rfl, hrow, hw⟩ := hrel
    rename World => wo
    by_cases hlt : i < l.length
    · obtain ⟨x, hx⟩ : ∃ x, l[i]? = some x := ⟨_, List.getElem?_eq_getElem hlt⟩
      have hul := uniq_len (l.take i)
      rw [List.length_take] at hul
      have HX := Lib.hid (uniq_snoc hx)
      obtain ⟨b, o, c, hv, hb, _, _, _, hc, hxwf⟩ := ints_at (H.out.below hw.out) hx
      simp at hv
      obtain ⟨rfl, rfl⟩ := hv
      generalize uniq (l.take i) = out at *
      clear hx
      obtain ⟨ao2, cap2, rfl, hl2, hcap2⟩ := row_form hrow.out
      unfold maxLen at hcap2
      go_wp2_with fail
      go_loopw [5] (fun j wr => ∃ (k : Nat), k ≤ out.length ∧ j = .int .i64 k ∧ Hid (∀ y ∈ out.take k, y < x) ∧ ∃ m, Hid (wr = wo.drewN m)) (fun j _ => out.length - (intOf j).toNat)
      case atStart => exact ⟨0, by omega, rfl, by show ∀ y ∈ ([] : List Int), y < x; simp, 0, rfl⟩
      case round =>
        obtain ⟨k, hk, rfl, hbel, m, hw2⟩ := hrel
        by_cases hk2 : k < out.length
        · obtain ⟨y, hy⟩ : ∃ y, out[k]? = some y := ⟨_, List.getElem?_eq_getElem hk2⟩
          obtain ⟨g, cap3, hv3, _, _, _, _, hcg⟩ := int_row_get hrow.out hy
          simp at hv3
          obtain ⟨rfl, rfl⟩ := hv3
          have hc2 : wr.cell? ⟨b, o + i, none⟩ = some (.int .i64 x) := by rw [hw2.out]; exact hc
          have hcg2 : wr.cell? ⟨g, k, none⟩ = some (.int .i64 y) := by rw [hw2.out]; exact hcg
          have HW : Hid (∀ q, wr.drewN q = wo.drewN (m + q)) := Lib.hid (fun q => by rw [hw2.out]; simp only [World.drewN_drewN])
          have HY := Lib.hid hy
          clear hy hc hcg
          by_cases hyx : y < x
          · go_wp2_with fail
            go_quiet (fail)
            go_wp2_with fail
            go_roundw
            case rel => exact ⟨k + 1, by omega, by go_num, (by
              intro z hz
              rw [take_snoc' HY.out] at hz
              rcases List.mem_append.1 hz with hz | hz
              · exact hbel.out z hz
              · simp at hz; subst hz; exact hyx), _, HW.out _⟩
            case measure => simp [intOf]; omega
          · have hyd : decide (y < x) = false := by simpa using hyx
            have hk' := takeWhile_at hk hbel.out (fun z hz => by rw [HY.out] at hz; cases hz; exact hyx)
            go_wp2_with fail
            go_quiet (fail)
            rename Nat => nq1
            go_wp2_with fail
            by_cases hxy : y = x
            · have hxyb : (y == x) = true := by simpa using hxy
              have hun : uins out x = out := by
                unfold uins
                simp only [hk', HY.out, hxy, if_true]
              have HUN := Lib.hid hun
              clear hk' hun
              go_wp2_with fail
              go_quiet (fail)
              have hu1 : Upd [] wo (wr.drewN (nq1 + nq)) := by rw [hw2.out]; simp only [World.drewN_drewN]; exact Upd.drewN [] wo _
              go_wp2_with fail
              go_roundw
              case rel => exact ⟨i + 1, by omega, by go_num, by rw [HX.out, HUN.out]; exact hrow.out.upd hu1 (by simp) (by simp) (by simp), hw.out.trans (hu1.below.mono hw.out.size)⟩
              case measure => simp [intOf]; omega
            · have hxyb : (y == x) = false := by simpa using hxy
              have hun : uins out x = [] ++ out.take k ++ [x] ++ out.drop k := by
                unfold uins
                simp only [hk', HY.out, Option.some.injEq, hxy, if_false, List.nil_append]
              have HUN := Lib.hid hun
              clear hk' hun
              go_wp2_with fail
              go_quiet (fail)
              go_wp2_with fail
              obtain ⟨W1, hW1⟩ : ∃ W1, (wr.drewN nq1).drewN nq = W1 := ⟨_, rfl⟩
              have hWo : W1 = wo.drewN (m + nq1 + nq) := by rw [← hW1, hw2.out]; simp only [World.drewN_drewN]
              have hu1 : Upd [] wo W1 := by rw [hWo]; exact Upd.drewN [] wo _
              have hcW : W1.cell? ⟨b, o + i, none⟩ = some (.int .i64 x) := by rw [← hW1]; exact hc2
              rw [hW1]
              have HWo := Lib.hid hWo
              have src0 := Row.read hrow.out (by simp)
              have src1 : ∀ W' N', Upd [] W1 W' → (∀ k, k ∈ N' → W1.heap.size ≤ k) → (Kd.int .i64).slice.At N' W' [.slice (some ⟨g, 0, none⟩) k cap2] (out.take k) := fun W' N' hu hN =>
                (Kd.slice_take src0 hk).upd (hu1.trans hu) (by simp) (fun k hk => .inr (Nat.le_trans hu1.size (hN k hk)))
              have src2 : ∀ W' N', Upd [] W1 W' → (∀ k, k ∈ N' → W1.heap.size ≤ k) → (Kd.int .i64).slice.At N' W' [.slice (if cap2 = k then some ⟨g, 0, none⟩ else some ⟨g, k, none⟩) (out.length - k) (cap2 - k)] (out.drop k) := fun W' N' hu hN =>
                (ints_drop src0 hk).upd (hu1.trans hu) (by simp) (fun k hk => .inr (Nat.le_trans hu1.size (hN k hk)))
              have SRC1 := Lib.hid src1
              have SRC2 := Lib.hid src2
              have hBW : w.heap.size ≤ W1.heap.size := Nat.le_trans hw.out.size hu1.size
              have hbW : b < W1.heap.size := Nat.lt_of_lt_of_le hb hu1.size
              have hk0 : (0 : Int) ≤ (k : Int) := by omega
              have hkc : (k : Int) ≤ (cap2 : Int) := by omega
              have hkl : (k : Int) ≤ (out.length : Int) := by omega
              clear src0 src1 src2 hWo hW1 hc2 hcg2
              have HU1 := Lib.hid hu1
              clear hu1
              go_region_held3 (fun w' => w'.cell? ⟨b, o + i, none⟩ = some (.int .i64 x))
                (first | go_keep | (rw [hU3.cell (by simp; omega) (by simp)]; assumption) | (rw [hU2.cell (by simp; omega) (by simp)]; assumption) | (rw [hU1.cell (by simp; omega) (by simp)]; assumption))
                (first
                  | (refine step_row_append rfl (.tmp 44) (.tmp 47) _ rfl (K := Kd.int .i64) (M := []) (B := W1.heap.size) (l := []) (l2 := out.take k) (v := .slice (some ⟨_, 0, none⟩) 0 0) (u := .slice _ k cap2) rfl rfl ?_ Try.underlying24 HI.out HZ0.out HZ1.out HZ2.out rfl (by decide) ?_ ?_ ?_ ?_ ?_
                     · exact row_new (by (first | exact Go.heap_alloc_new _ _ | exact alloc2_snd _ _ _ | exact alloc2_fst _ _ _ | (refine (Below.heap_alloc _ _ _ (by simp)).trans ?_; exact Go.heap_alloc_new _ _))) (by (first | omega | (simp; omega) | (simp; done)))
                     · exact SRC1.out _ _ (by (first | exact Upd.refl _ _ | exact (Upd.alloc _ _ _).trans (Upd.drew _ _) | exact ((Upd.alloc _ _ _).trans (Upd.alloc _ _ _)).trans (Upd.drew _ _))) (by simp [ob, Value.ownBlock])
                     · (simp only [List.nil_append, List.append_nil, List.length_append, List.length_cons, List.length_nil, List.length_take, List.length_drop, maxLen]; omega)
                     · (simp only [List.nil_append, List.append_nil, List.length_append, List.length_cons, List.length_nil, List.length_take, List.length_drop, maxLen]; omega)
                     · (first | omega | (simp; omega) | (simp; done))
                     intro v1 w1 hr1 hv1 ho1
                     have hU1 : Upd [] W1 w1 := Upd.trans' (by (first | exact Upd.refl _ _ | exact (Upd.alloc _ _ _).trans (Upd.drew _ _) | exact ((Upd.alloc _ _ _).trans (Upd.alloc _ _ _)).trans (Upd.drew _ _))) hv1 (by simp [ob, Value.ownBlock]))
                  | (refine step_row_append rfl (.tmp 48) (.tmp 53) _ rfl (K := Kd.int .i64) (M := []) (B := W1.heap.size) (l := [] ++ out.take k) (l2 := [x]) (v := v1) (u := .slice (some ⟨_, 0, none⟩) 1 1) rfl rfl ?_ Try.underlying24 HI.out HZ0.out HZ1.out HZ2.out rfl (by decide) ?_ ?_ ?_ ?_ ?_
                     · exact hr1.upd (Upd.alloc [] w1 _) (by simp) (by simp) (by simp)
                     · exact one_at (Go.heap_alloc_new w1 _) (fun hm => by have hq := (hr1.ob_lt _ (by simpa using hm)).2; omega) hxwf
                     · (simp only [List.nil_append, List.append_nil, List.length_append, List.length_cons, List.length_nil, List.length_take, List.length_drop, maxLen]; omega)
                     · (simp only [List.nil_append, List.append_nil, List.length_append, List.length_cons, List.length_nil, List.length_take, List.length_drop, maxLen]; omega)
                     · (have := hU1.size; (first | omega | (simp; omega) | (simp; done)))
                     intro v2 w2 hr2 hv2 ho2
                     have hU2 : Upd [] W1 w2 := (hU1.trans (Upd.alloc [] w1 _)).trans' hv2 (fun k hk => .inr (hr1.ob_lt k hk).1))
                  | (refine step_row_append rfl (.tmp 48) (.tmp 53) _ rfl (K := Kd.int .i64) (M := []) (B := W1.heap.size) (l := [] ++ out.take k) (l2 := [x]) (v := v1) (w := w1) (u := .slice (some ⟨_, 0, none⟩) 1 1) rfl rfl ?_ Try.underlying24 HI.out HZ0.out HZ1.out HZ2.out rfl (by decide) ?_ ?_ ?_ ?_ ?_
                     · exact hr1
                     · exact one_at ((hv1.block _ (by (first | omega | (simp; omega) | (simp; done))) (by simp [ob, Value.ownBlock])).trans (by (first | exact Go.heap_alloc_new _ _ | exact alloc2_snd _ _ _ | exact alloc2_fst _ _ _ | (refine (Below.heap_alloc _ _ _ (by simp)).trans ?_; exact Go.heap_alloc_new _ _)))) (fun hm => by
                         rcases ho1 with h | h
                         · rw [List.append_nil, h] at hm; simp [ob, Value.ownBlock] at hm
                         · rw [List.append_nil, h] at hm; simp at hm <;> omega) hxwf
                     · (simp only [List.nil_append, List.append_nil, List.length_append, List.length_cons, List.length_nil, List.length_take, List.length_drop, maxLen]; omega)
                     · (simp only [List.nil_append, List.append_nil, List.length_append, List.length_cons, List.length_nil, List.length_take, List.length_drop, maxLen]; omega)
                     · exact hU1.size
                     intro v2 w2 hr2 hv2 ho2
                     have hU2 : Upd [] W1 w2 := hU1.trans' hv2 (fun k hk => .inr (hr1.ob_lt k hk).1))
                  | (refine step_row_append rfl (.tmp 54) (.tmp 57) _ rfl (K := Kd.int .i64) (M := []) (B := W1.heap.size) (l := [] ++ out.take k ++ [x]) (l2 := out.drop k) (v := v2) rfl rfl ?_ Try.underlying24 HI.out HZ0.out HZ1.out HZ2.out rfl (by decide) ?_ ?_ ?_ ?_ ?_
                     · exact hr2
                     · (have hs2 := SRC2.out w2 (ob v2 ++ []) hU2 (fun k hk => (hr2.ob_lt k (by simpa using hk)).1); simpa [Act.eval] using hs2)
                     · (simp only [List.nil_append, List.append_nil, List.length_append, List.length_cons, List.length_nil, List.length_take, List.length_drop, maxLen]; omega)
                     · (simp only [List.nil_append, List.append_nil, List.length_append, List.length_cons, List.length_nil, List.length_take, List.length_drop, maxLen]; omega)
                     · exact hU2.size
                     intro v3 w3 hr3 hv3 ho3
                     have hU3 : Upd [] W1 w3 := hU2.trans' hv3 (fun k hk => .inr (hr2.ob_lt k hk).1)))
              all_goals
                simp only [Exit.inBlock, Exit.then]
                go_at_K
                go_wp2_with fail
                go_roundw
                case rel => exact ⟨i + 1, by omega, by go_num, by rw [HX.out, HUN.out]; exact hr3.base hBW, hw.out.trans ((HU1.out.trans hU3).below.mono hw.out.size)⟩
                case measure => simp [intOf]; omega
        · have hkd : decide ((k : Int) < (out.length : Int)) = false := by simp; omega
          have hkl : k = out.length := by omega
          have hk' := takeWhile_at hk hbel.out (fun z hz => by rw [hkl] at hz; simp at hz)
          have hun : uins out x = [] ++ out.take k ++ [x] ++ out.drop k := by
            unfold uins
            have hno : out[k]? = none := by rw [hkl]; simp
            simp only [hk', hno, List.nil_append]
            simp
          have HUN := Lib.hid hun
          have HKL := Lib.hid hkl
          have hc2 : wr.cell? ⟨b, o + i, none⟩ = some (.int .i64 x) := by rw [hw2.out]; exact hc
          clear hkl hk' hun hc
          go_wp2_with fail
          go_quiet (fail)
          rename Nat => nq1
          go_wp2_with fail
          go_quiet (fail)
          go_wp2_with fail
          rcases hrow.out.form with ⟨hv4, ho4⟩ | ⟨g, cap4, hv4, _⟩
          · simp at hv4
            obtain ⟨rfl, _, rfl⟩ := hv4
            subst ho4
            obtain rfl : k = 0 := by have := HKL.out; simpa using this
            obtain ⟨W1, hW1⟩ : ∃ W1, (wr.drewN nq1).drewN nq = W1 := ⟨_, rfl⟩
            have hWo : W1 = wo.drewN (m + nq1 + nq) := by rw [← hW1, hw2.out]; simp only [World.drewN_drewN]
            have hu1 : Upd [] wo W1 := by rw [hWo]; exact Upd.drewN [] wo _
            have hcW : W1.cell? ⟨b, o + i, none⟩ = some (.int .i64 x) := by rw [← hW1]; exact hc2
            rw [hW1]
            have SRC1 := Lib.hid (fun (W' : World) (N' : List Nat) (_ : Upd [] W1 W') (_ : ∀ k, k ∈ N' → W1.heap.size ≤ k) => Kd.slice_nil (Kd.int .i64) N' W' none 0 (by simp [maxLen]))
            have SRC2 := SRC1
            have hBW : w.heap.size ≤ W1.heap.size := Nat.le_trans hw.out.size hu1.size
            have hbW : b < W1.heap.size := Nat.lt_of_lt_of_le hb hu1.size
            clear hWo hW1 hc2
            have HU1 := Lib.hid hu1
            clear hu1
            go_region_held3 (fun w' => w'.cell? ⟨b, o + i, none⟩ = some (.int .i64 x))
              (first | go_keep | (rw [hU3.cell (by simp; omega) (by simp)]; assumption) | (rw [hU2.cell (by simp; omega) (by simp)]; assumption) | (rw [hU1.cell (by simp; omega) (by simp)]; assumption))
              (first
                | (refine step_row_append rfl (.tmp 44) (.tmp 47) _ rfl (K := Kd.int .i64) (M := []) (B := W1.heap.size) (l := []) (l2 := ([] : List Int)) (v := .slice (some ⟨_, 0, none⟩) 0 0) (u := .slice none 0 0) rfl rfl ?_ Try.underlying24 HI.out HZ0.out HZ1.out HZ2.out rfl (by decide) ?_ ?_ ?_ ?_ ?_
                   · exact row_new (by (first | exact Go.heap_alloc_new _ _ | exact alloc2_snd _ _ _ | exact alloc2_fst _ _ _ | (refine (Below.heap_alloc _ _ _ (by simp)).trans ?_; exact Go.heap_alloc_new _ _))) (by (first | omega | (simp; omega) | (simp; done)))
                   · exact SRC1.out _ _ (by (first | exact Upd.refl _ _ | exact (Upd.alloc _ _ _).trans (Upd.drew _ _) | exact ((Upd.alloc _ _ _).trans (Upd.alloc _ _ _)).trans (Upd.drew _ _))) (by simp [ob, Value.ownBlock])
                   · (simp only [List.nil_append, List.append_nil, List.length_append, List.length_cons, List.length_nil, List.length_take, List.length_drop, maxLen]; omega)
                   · (simp only [List.nil_append, List.append_nil, List.length_append, List.length_cons, List.length_nil, List.length_take, List.length_drop, maxLen]; omega)
                   · (first | omega | (simp; omega) | (simp; done))
                   intro v1 w1 hr1 hv1 ho1
                   have hU1 : Upd [] W1 w1 := Upd.trans' (by (first | exact Upd.refl _ _ | exact (Upd.alloc _ _ _).trans (Upd.drew _ _) | exact ((Upd.alloc _ _ _).trans (Upd.alloc _ _ _)).trans (Upd.drew _ _))) hv1 (by simp [ob, Value.ownBlock]))
                | (refine step_row_append rfl (.tmp 48) (.tmp 53) _ rfl (K := Kd.int .i64) (M := []) (B := W1.heap.size) (l := [] ++ ([] : List Int)) (l2 := [x]) (v := v1) (u := .slice (some ⟨_, 0, none⟩) 1 1) rfl rfl ?_ Try.underlying24 HI.out HZ0.out HZ1.out HZ2.out rfl (by decide) ?_ ?_ ?_ ?_ ?_
                   · exact hr1.upd (Upd.alloc [] w1 _) (by simp) (by simp) (by simp)
                   · exact one_at (Go.heap_alloc_new w1 _) (fun hm => by have hq := (hr1.ob_lt _ (by simpa using hm)).2; omega) hxwf
                   · (simp only [List.nil_append, List.append_nil, List.length_append, List.length_cons, List.length_nil, List.length_take, List.length_drop, maxLen]; omega)
                   · (simp only [List.nil_append, List.append_nil, List.length_append, List.length_cons, List.length_nil, List.length_take, List.length_drop, maxLen]; omega)
                   · (have := hU1.size; (first | omega | (simp; omega) | (simp; done)))
                   intro v2 w2 hr2 hv2 ho2
                   have hU2 : Upd [] W1 w2 := (hU1.trans (Upd.alloc [] w1 _)).trans' hv2 (fun k hk => .inr (hr1.ob_lt k hk).1))
                | (refine step_row_append rfl (.tmp 48) (.tmp 53) _ rfl (K := Kd.int .i64) (M := []) (B := W1.heap.size) (l := [] ++ ([] : List Int)) (l2 := [x]) (v := v1) (w := w1) (u := .slice (some ⟨_, 0, none⟩) 1 1) rfl rfl ?_ Try.underlying24 HI.out HZ0.out HZ1.out HZ2.out rfl (by decide) ?_ ?_ ?_ ?_ ?_
                   · exact hr1
                   · exact one_at ((hv1.block _ (by (first | omega | (simp; omega) | (simp; done))) (by simp [ob, Value.ownBlock])).trans (by (first | exact Go.heap_alloc_new _ _ | exact alloc2_snd _ _ _ | exact alloc2_fst _ _ _ | (refine (Below.heap_alloc _ _ _ (by simp)).trans ?_; exact Go.heap_alloc_new _ _)))) (fun hm => by
                       rcases ho1 with h | h
                       · rw [List.append_nil, h] at hm; simp [ob, Value.ownBlock] at hm
                       · rw [List.append_nil, h] at hm; simp at hm <;> omega) hxwf
                   · (simp only [List.nil_append, List.append_nil, List.length_append, List.length_cons, List.length_nil, List.length_take, List.length_drop, maxLen]; omega)
                   · (simp only [List.nil_append, List.append_nil, List.length_append, List.length_cons, List.length_nil, List.length_take, List.length_drop, maxLen]; omega)
                   · exact hU1.size
                   intro v2 w2 hr2 hv2 ho2
                   have hU2 : Upd [] W1 w2 := hU1.trans' hv2 (fun k hk => .inr (hr1.ob_lt k hk).1))
                | (refine step_row_append rfl (.tmp 54) (.tmp 57) _ rfl (K := Kd.int .i64) (M := []) (B := W1.heap.size) (l := [] ++ ([] : List Int) ++ [x]) (l2 := ([] : List Int)) (v := v2) rfl rfl ?_ Try.underlying24 HI.out HZ0.out HZ1.out HZ2.out rfl (by decide) ?_ ?_ ?_ ?_ ?_
                   · exact hr2
                   · (have hs2 := SRC2.out w2 (ob v2 ++ []) hU2 (fun k hk => (hr2.ob_lt k (by simpa using hk)).1); simpa [Act.eval] using hs2)
                   · (simp only [List.nil_append, List.append_nil, List.length_append, List.length_cons, List.length_nil, List.length_take, List.length_drop, maxLen]; omega)
                   · (simp only [List.nil_append, List.append_nil, List.length_append, List.length_cons, List.length_nil, List.length_take, List.length_drop, maxLen]; omega)
                   · exact hU2.size
                   intro v3 w3 hr3 hv3 ho3
                   have hU3 : Upd [] W1 w3 := hU2.trans' hv3 (fun k hk => .inr (hr2.ob_lt k hk).1)))
            all_goals
              simp only [Exit.inBlock, Exit.then]
              go_at_K
              go_wp2_with fail
              go_roundw
              case rel => exact ⟨i + 1, by omega, by go_num, by rw [HX.out, HUN.out]; exact Lib.hid (by simpa using hr3.base hBW), hw.out.trans ((HU1.out.trans hU3).below.mono hw.out.size)⟩
              case measure => simp [intOf]; omega
          · simp at hv4
            obtain ⟨rfl, rfl⟩ := hv4
            obtain ⟨W1, hW1⟩ : ∃ W1, (wr.drewN nq1).drewN nq = W1 := ⟨_, rfl⟩
            have hWo : W1 = wo.drewN (m + nq1 + nq) := by rw [← hW1, hw2.out]; simp only [World.drewN_drewN]
            have hu1 : Upd [] wo W1 := by rw [hWo]; exact Upd.drewN [] wo _
            have hcW : W1.cell? ⟨b, o + i, none⟩ = some (.int .i64 x) := by rw [← hW1]; exact hc2
            rw [hW1]
            have HWo := Lib.hid hWo
            have src0 := Row.read hrow.out (by simp)
            have src1 : ∀ W' N', Upd [] W1 W' → (∀ k, k ∈ N' → W1.heap.size ≤ k) → (Kd.int .i64).slice.At N' W' [.slice (some ⟨g, 0, none⟩) k cap2] (out.take k) := fun W' N' hu hN =>
              (Kd.slice_take src0 hk).upd (hu1.trans hu) (by simp) (fun k hk => .inr (Nat.le_trans hu1.size (hN k hk)))
            have src2 : ∀ W' N', Upd [] W1 W' → (∀ k, k ∈ N' → W1.heap.size ≤ k) → (Kd.int .i64).slice.At N' W' [.slice (if cap2 = k then some ⟨g, 0, none⟩ else some ⟨g, k, none⟩) (out.length - k) (cap2 - k)] (out.drop k) := fun W' N' hu hN =>
              (ints_drop src0 hk).upd (hu1.trans hu) (by simp) (fun k hk => .inr (Nat.le_trans hu1.size (hN k hk)))
            have SRC1 := Lib.hid src1
            have SRC2 := Lib.hid src2
            have hBW : w.heap.size ≤ W1.heap.size := Nat.le_trans hw.out.size hu1.size
            have hbW : b < W1.heap.size := Nat.lt_of_lt_of_le hb hu1.size
            have hk0 : (0 : Int) ≤ (k : Int) := by omega
            have hkc : (k : Int) ≤ (cap2 : Int) := by omega
            have hkl : (k : Int) ≤ (out.length : Int) := by omega
            clear src0 src1 src2 hWo hW1 hc2
            have HU1 := Lib.hid hu1
            clear hu1
            go_region_held3 (fun w' => w'.cell? ⟨b, o + i, none⟩ = some (.int .i64 x))
              (first | go_keep | (rw [hU3.cell (by simp; omega) (by simp)]; assumption) | (rw [hU2.cell (by simp; omega) (by simp)]; assumption) | (rw [hU1.cell (by simp; omega) (by simp)]; assumption))
              (first
                | (refine step_row_append rfl (.tmp 44) (.tmp 47) _ rfl (K := Kd.int .i64) (M := []) (B := W1.heap.size) (l := []) (l2 := out.take k) (v := .slice (some ⟨_, 0, none⟩) 0 0) (u := .slice _ k cap2) rfl rfl ?_ Try.underlying24 HI.out HZ0.out HZ1.out HZ2.out rfl (by decide) ?_ ?_ ?_ ?_ ?_
                   · exact row_new (by (first | exact Go.heap_alloc_new _ _ | exact alloc2_snd _ _ _ | exact alloc2_fst _ _ _ | (refine (Below.heap_alloc _ _ _ (by simp)).trans ?_; exact Go.heap_alloc_new _ _))) (by (first | omega | (simp; omega) | (simp; done)))
                   · exact SRC1.out _ _ (by (first | exact Upd.refl _ _ | exact (Upd.alloc _ _ _).trans (Upd.drew _ _) | exact ((Upd.alloc _ _ _).trans (Upd.alloc _ _ _)).trans (Upd.drew _ _))) (by simp [ob, Value.ownBlock])
                   · (simp only [List.nil_append, List.append_nil, List.length_append, List.length_cons, List.length_nil, List.length_take, List.length_drop, maxLen]; omega)
                   · (simp only [List.nil_append, List.append_nil, List.length_append, List.length_cons, List.length_nil, List.length_take, List.length_drop, maxLen]; omega)
                   · (first | omega | (simp; omega) | (simp; done))
                   intro v1 w1 hr1 hv1 ho1
                   have hU1 : Upd [] W1 w1 := Upd.trans' (by (first | exact Upd.refl _ _ | exact (Upd.alloc _ _ _).trans (Upd.drew _ _) | exact ((Upd.alloc _ _ _).trans (Upd.alloc _ _ _)).trans (Upd.drew _ _))) hv1 (by simp [ob, Value.ownBlock]))
                | (refine step_row_append rfl (.tmp 48) (.tmp 53) _ rfl (K := Kd.int .i64) (M := []) (B := W1.heap.size) (l := [] ++ out.take k) (l2 := [x]) (v := v1) (u := .slice (some ⟨_, 0, none⟩) 1 1) rfl rfl ?_ Try.underlying24 HI.out HZ0.out HZ1.out HZ2.out rfl (by decide) ?_ ?_ ?_ ?_ ?_
                   · exact hr1.upd (Upd.alloc [] w1 _) (by simp) (by simp) (by simp)
                   · exact one_at (Go.heap_alloc_new w1 _) (fun hm => by have hq := (hr1.ob_lt _ (by simpa using hm)).2; omega) hxwf
                   · (simp only [List.nil_append, List.append_nil, List.length_append, List.length_cons, List.length_nil, List.length_take, List.length_drop, maxLen]; omega)
                   · (simp only [List.nil_append, List.append_nil, List.length_append, List.length_cons, List.length_nil, List.length_take, List.length_drop, maxLen]; omega)
                   · (have := hU1.size; (first | omega | (simp; omega) | (simp; done)))
                   intro v2 w2 hr2 hv2 ho2
                   have hU2 : Upd [] W1 w2 := (hU1.trans (Upd.alloc [] w1 _)).trans' hv2 (fun k hk => .inr (hr1.ob_lt k hk).1))
                | (refine step_row_append rfl (.tmp 48) (.tmp 53) _ rfl (K := Kd.int .i64) (M := []) (B := W1.heap.size) (l := [] ++ out.take k) (l2 := [x]) (v := v1) (w := w1) (u := .slice (some ⟨_, 0, none⟩) 1 1) rfl rfl ?_ Try.underlying24 HI.out HZ0.out HZ1.out HZ2.out rfl (by decide) ?_ ?_ ?_ ?_ ?_
                   · exact hr1
                   · exact one_at ((hv1.block _ (by (first | omega | (simp; omega) | (simp; done))) (by simp [ob, Value.ownBlock])).trans (by (first | exact Go.heap_alloc_new _ _ | exact alloc2_snd _ _ _ | exact alloc2_fst _ _ _ | (refine (Below.heap_alloc _ _ _ (by simp)).trans ?_; exact Go.heap_alloc_new _ _)))) (fun hm => by
                       rcases ho1 with h | h
                       · rw [List.append_nil, h] at hm; simp [ob, Value.ownBlock] at hm
                       · rw [List.append_nil, h] at hm; simp at hm <;> omega) hxwf
                   · (simp only [List.nil_append, List.append_nil, List.length_append, List.length_cons, List.length_nil, List.length_take, List.length_drop, maxLen]; omega)
                   · (simp only [List.nil_append, List.append_nil, List.length_append, List.length_cons, List.length_nil, List.length_take, List.length_drop, maxLen]; omega)
                   · exact hU1.size
                   intro v2 w2 hr2 hv2 ho2
                   have hU2 : Upd [] W1 w2 := hU1.trans' hv2 (fun k hk => .inr (hr1.ob_lt k hk).1))
                | (refine step_row_append rfl (.tmp 54) (.tmp 57) _ rfl (K := Kd.int .i64) (M := []) (B := W1.heap.size) (l := [] ++ out.take k ++ [x]) (l2 := out.drop k) (v := v2) rfl rfl ?_ Try.underlying24 HI.out HZ0.out HZ1.out HZ2.out rfl (by decide) ?_ ?_ ?_ ?_ ?_
                   · exact hr2
                   · (have hs2 := SRC2.out w2 (ob v2 ++ []) hU2 (fun k hk => (hr2.ob_lt k (by simpa using hk)).1); simpa [Act.eval] using hs2)
                   · (simp only [List.nil_append, List.append_nil, List.length_append, List.length_cons, List.length_nil, List.length_take, List.length_drop, maxLen]; omega)
                   · (simp only [List.nil_append, List.append_nil, List.length_append, List.length_cons, List.length_nil, List.length_take, List.length_drop, maxLen]; omega)
                   · exact hU2.size
                   intro v3 w3 hr3 hv3 ho3
                   have hU3 : Upd [] W1 w3 := hU2.trans' hv3 (fun k hk => .inr (hr2.ob_lt k hk).1)))
            all_goals
              simp only [Exit.inBlock, Exit.then]
              go_at_K
              go_wp2_with fail
              go_roundw
              case rel => exact ⟨i + 1, by omega, by go_num, by rw [HX.out, HUN.out]; exact hr3.base hBW, hw.out.trans ((HU1.out.trans hU3).below.mono hw.out.size)⟩
              case measure => simp [intOf]; omega
    · go_wp2_with fail
      go_ret
      have e : l.take i = l := List.take_of_length_le (by omega)
      rw [e] at hrow
      exact ⟨_, rfl, hw.out, hrow.out⟩

end Go.Proofs.Ytglghgjbnoldaaa
