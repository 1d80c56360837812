/-
The document's sorting of results.
-/
import Derived.Test.YtglghgjbnoldaaaNear
namespace Go.Proofs.Ytglghgjbnoldaaa
set_option linter.unusedVariables false
set_option linter.unusedSimpArgs false
open Go.RowKit

/-- Where a result goes, among the first k. -/
def insAt (x : Rs) (out : List Rs) : Nat → Nat
  | 0 => 0
  | k + 1 => match out[k]? with
    | some y => if nearer x y then insAt x out k else k + 1
    | none => 0
def ins4 (out : List Rs) (x : Rs) : List Rs := [] ++ out.take (insAt x out out.length) ++ [x] ++ out.drop (insAt x out out.length)
def sort4 (l : List Rs) : List Rs := l.foldl ins4 []
theorem sort4_snoc {l : List Rs} {k : Nat} {x : Rs} (hx : l[k]? = some x) : sort4 (l.take (k + 1)) = ins4 (sort4 (l.take k)) x := by
  rw [take_snoc' hx]; simp [sort4, List.foldl_append]
theorem ins4_len (out : List Rs) (x : Rs) : (ins4 out x).length = out.length + 1 := by
  unfold ins4
  simp; omega
theorem sort4_len (l : List Rs) : (sort4 l).length = l.length := by
  have : ∀ (l out : List Rs), (l.foldl ins4 out).length = out.length + l.length := by
    intro l
    induction l with
    | nil => intro out; simp
    | cons x l ih => intro out; have := ih (ins4 out x); have := ins4_len out x; simp; omega
  have := this l []
  simpa [sort4] using this

theorem infoQRs : (Try.prog.info? 42).map (fun i => (i.zero, i.size, i.bytes)) = some (some (.agg #[.int .i64 0, .int .i64 0]), 2, 16) := by kernel_rfl
theorem rs_one {N : List Nat} {w : World} {b : Nat} {x : Rs} {t : TypeId} {fr : Nat × Nat} (h : w.heap[b]? = some (.cells #[.int .i64 x.id, .int .i64 x.far] t fr)) (hn : b ∉ N) (hx : rsE.ok x) : rsE.kd.slice.At N w [.slice (some ⟨b, 0, none⟩) 1 1] [x] :=
  ⟨⟨some ⟨b, 0, none⟩, 1, rfl, Nat.le_refl _, by simp [maxLen], fun i y hy => by
    cases i with
    | zero =>
      simp at hy; subst hy
      refine ⟨b, 0, rfl, ⟨block_lt h, hn⟩, block_lt h, rsE.enc x, ⟨rfl, hx⟩, fun j v hv => ?_⟩
      simp only [World.cell?, h, Nat.zero_mul, Nat.zero_add]
      simpa [rsE] using hv
    | succ i => simp at hy⟩⟩

set_option maxRecDepth 100000 in
set_option maxHeartbeats 4000000 in
theorem sort4_calls (v : Value) (l : List Rs) (M : List Nat) (w : World) (h : rsE.kd.slice.At M w [v] l) (hlen : l.length ≤ 1048576) :
    Calls Try.prog 52 #[v] w fun e w' => ∃ v', e = .returned v' ∧ Below w.heap.size w w' ∧ Row rsE.kd [] 42 w.heap.size w' v' (sort4 l) := by
  obtain ⟨ao, cap, rfl, hl, hcap⟩ := Kd.slice_form h
  have H := Lib.hid h
  clear h
  unfold maxLen at hcap
  obtain ⟨i0, hi, hz0, hz1, hz2⟩ := info_parts infoQRs
  have HI := Lib.hid hi
  have HZ0 := Lib.hid hz0
  have HZ1 := Lib.hid hz1
  have HZ2 := Lib.hid hz2
  clear hi hz0 hz1 hz2
  go_enter Try.func52, Try.ntmps52
  go_wp2_with fail
  go_loopw [3, 4] (fun s i wr => ∃ (k : Nat), k ≤ l.length ∧ i = .int .i64 k ∧ Hid (Row rsE.kd [] 42 w.heap.size wr s (sort4 (l.take k))) ∧ Hid (Below w.heap.size w wr)) (fun _ i _ => l.length - (intOf i).toNat)
  case atStart => exact ⟨0, by omega, rfl, Lib.hid (Row.nil _ _ _ _ _), Lib.hid (Below.refl _ _)⟩
  case round =>
    obtain ⟨i, hi, rfl, hrow, hw⟩ := hrel
    rename World => wo
    by_cases hlt : i < l.length
    · obtain ⟨x, hx⟩ : ∃ x, l[i]? = some x := ⟨_, List.getElem?_eq_getElem hlt⟩
      have hul := sort4_len (l.take i)
      rw [List.length_take] at hul
      have HXS := Lib.hid (sort4_snoc hx)
      obtain ⟨b, o, c, hv, hb, _, _, _, hok, hc0, hc1⟩ := rs_at (H.out.below hw.out) hx
      simp at hv
      obtain ⟨rfl, rfl⟩ := hv
      have HOK := Lib.hid hok
      generalize sort4 (l.take i) = out at *
      have hol : out.length ≤ 1048576 := by omega
      clear hx hok hul
      obtain ⟨ao2, cap2, rfl, hl2, hcap2⟩ := row_form hrow.out
      unfold maxLen at hcap2
      have HRD := Lib.hid (hrow.out.read (by simp))
      have XC : Hid (∀ W, Upd [] wo W → W.cell? ⟨b, o + i * 2, none⟩ = some (.int .i64 x.id) ∧ W.cell? ⟨b, o + i * 2 + 1, none⟩ = some (.int .i64 x.far)) := Lib.hid (fun W hu => ⟨(hu.cell (a := ⟨b, _, none⟩) hb (by simp)).trans hc0, (hu.cell (a := ⟨b, _, none⟩) hb (by simp)).trans hc1⟩)
      clear hc0 hc1
      go_wp2_with fail
      go_loopw [5] (fun j wr => ∃ (k : Nat), k ≤ out.length ∧ j = .int .i64 k ∧ Hid (insAt x out out.length = insAt x out k) ∧ Hid (Upd [] wo wr)) (fun j _ => (intOf j).toNat)
      case atStart => exact ⟨out.length, Nat.le_refl _, rfl, Lib.hid rfl, Lib.hid (Upd.refl _ _)⟩
      case round =>
        obtain ⟨k, hk, rfl, hins, hu⟩ := hrel
        by_cases hk0 : k = 0
        · have HK0 := Lib.hid hk0
          have hkd : decide ((0 : Int) < (k : Int)) = false := by simp; omega
          have HIN : Hid (insAt x out out.length = k) := Lib.hid (by rw [hins.out, hk0]; rfl)
          have hkn : ¬ 0 < k := by omega
          have hkdn : decide (0 < k) = false := by simp; omega
          clear hk0
          go_wp2_with fail
          go_quiet (fail)
          go_wp2_with fail
          -- TAIL1
          obtain ⟨W1, hW1⟩ : ∃ W1, wr.drewN nq = W1 := ⟨_, rfl⟩
          have hu1 : Upd [] wo W1 := by rw [← hW1]; exact hu.out.trans (Upd.drewN [] wr _)
          rw [hW1]
          obtain ⟨d0, d1⟩ := XC.out W1 hu1
          have SRC1 : Hid (∀ W' N', Upd [] W1 W' → (∀ k, k ∈ N' → W1.heap.size ≤ k) → rsE.kd.slice.At N' W' [.slice ao2 k cap2] (out.take k)) := Lib.hid (fun W' N' hu hN => (Kd.slice_take HRD.out hk).upd (hu1.trans hu) (by simp) (fun k hk => .inr (Nat.le_trans hu1.size (hN k hk))))
          have SRC2 : Hid (∀ W' N', Upd [] W1 W' → (∀ k, k ∈ N' → W1.heap.size ≤ k) → rsE.kd.slice.At N' W' [.slice (if cap2 = k then ao2 else Option.map (fun x => x.add (k * 2)) ao2) (out.length - k) (cap2 - k)] (out.drop k)) := Lib.hid (fun W' N' hu hN => (Kd.slice_drop HRD.out hk).upd (hu1.trans hu) (by simp) (fun k hk => .inr (Nat.le_trans hu1.size (hN k hk))))
          have HU1 := Lib.hid hu1
          have hBW : w.heap.size ≤ W1.heap.size := Nat.le_trans hw.out.size hu1.size
          have hbW : b < W1.heap.size := Nat.lt_of_lt_of_le hb hu1.size
          have hk0 : (0 : Int) ≤ (k : Int) := by omega
          have hkc : (k : Int) ≤ (cap2 : Int) := by omega
          have hkl : (k : Int) ≤ (out.length : Int) := by omega
          clear hu1 hW1
          go_region_held3 (fun w' => w'.cell? ⟨b, o + i * 2, none⟩ = some (.int .i64 x.id) ∧ w'.cell? ⟨b, o + i * 2 + 1, none⟩ = some (.int .i64 x.far))
            (first | go_keep | exact XC.out _ (HU1.out.trans hU3) | exact XC.out _ (HU1.out.trans hU2) | exact XC.out _ (HU1.out.trans hU1) | exact ⟨d0, d1⟩)
            (first
              | (refine step_row_append rfl (.tmp 30) (.tmp 33) _ rfl (K := rsE.kd) (M := []) (B := W1.heap.size) (l := []) (l2 := out.take k) (v := .slice (some ⟨_, 0, none⟩) 0 0) (u := .slice _ k cap2) rfl rfl ?_ Try.underlying29 HI.out HZ0.out HZ1.out HZ2.out rfl (by decide) ?_ ?_ ?_ ?_ ?_
                 · exact row_new (by (first | exact Go.heap_alloc_new _ _ | exact alloc2_snd _ _ _ | exact alloc2_fst _ _ _ | (refine (Below.heap_alloc _ _ _ (by simp)).trans ?_; exact Go.heap_alloc_new _ _))) (by (first | omega | (simp; omega) | (simp; done)))
                 · exact SRC1.out _ _ (by (first | exact Upd.refl _ _ | exact (Upd.alloc _ _ _).trans (Upd.drew _ _) | exact ((Upd.alloc _ _ _).trans (Upd.alloc _ _ _)).trans (Upd.drew _ _))) (by simp [ob, Value.ownBlock])
                 · (simp only [List.nil_append, List.append_nil, List.length_append, List.length_cons, List.length_nil, List.length_take, List.length_drop, maxLen]; omega)
                 · (simp only [List.nil_append, List.append_nil, List.length_append, List.length_cons, List.length_nil, List.length_take, List.length_drop, maxLen]; omega)
                 · (first | omega | (simp; omega) | (simp; done))
                 intro v1 w1 hr1 hv1 ho1
                 have hU1 : Upd [] W1 w1 := Upd.trans' (by (first | exact Upd.refl _ _ | exact (Upd.alloc _ _ _).trans (Upd.drew _ _) | exact ((Upd.alloc _ _ _).trans (Upd.alloc _ _ _)).trans (Upd.drew _ _))) hv1 (by simp [ob, Value.ownBlock]))
              | (refine step_row_append rfl (.tmp 34) (.tmp 39) _ rfl (K := rsE.kd) (M := []) (B := W1.heap.size) (l := [] ++ out.take k) (l2 := [x]) (v := v1) (u := .slice (some ⟨_, 0, none⟩) 1 1) rfl rfl ?_ Try.underlying29 HI.out HZ0.out HZ1.out HZ2.out rfl (by decide) ?_ ?_ ?_ ?_ ?_
                 · exact hr1.upd (Upd.alloc [] w1 _) (by simp) (by simp) (by simp)
                 · exact rs_one (Go.heap_alloc_new w1 _) (fun hm => by have hq := (hr1.ob_lt _ (by simpa using hm)).2; omega) HOK.out
                 · (simp only [List.nil_append, List.append_nil, List.length_append, List.length_cons, List.length_nil, List.length_take, List.length_drop, maxLen]; omega)
                 · (simp only [List.nil_append, List.append_nil, List.length_append, List.length_cons, List.length_nil, List.length_take, List.length_drop, maxLen]; omega)
                 · (have := hU1.size; (first | omega | (simp; omega) | (simp; done)))
                 intro v2 w2 hr2 hv2 ho2
                 have hU2 : Upd [] W1 w2 := (hU1.trans (Upd.alloc [] w1 _)).trans' hv2 (fun k hk => .inr (hr1.ob_lt k hk).1))
              | (refine step_row_append rfl (.tmp 34) (.tmp 39) _ rfl (K := rsE.kd) (M := []) (B := W1.heap.size) (l := [] ++ out.take k) (l2 := [x]) (v := v1) (w := w1) (u := .slice (some ⟨_, 0, none⟩) 1 1) rfl rfl ?_ Try.underlying29 HI.out HZ0.out HZ1.out HZ2.out rfl (by decide) ?_ ?_ ?_ ?_ ?_
                 · exact hr1
                 · exact rs_one ((hv1.block _ (by (first | omega | (simp; omega) | (simp; done))) (by simp [ob, Value.ownBlock])).trans (by (first | exact Go.heap_alloc_new _ _ | exact alloc2_snd _ _ _ | exact alloc2_fst _ _ _ | (refine (Below.heap_alloc _ _ _ (by simp)).trans ?_; exact Go.heap_alloc_new _ _)))) (fun hm => by
                     rcases ho1 with h | h
                     · rw [List.append_nil, h] at hm; simp [ob, Value.ownBlock] at hm
                     · rw [List.append_nil, h] at hm; simp at hm <;> omega) HOK.out
                 · (simp only [List.nil_append, List.append_nil, List.length_append, List.length_cons, List.length_nil, List.length_take, List.length_drop, maxLen]; omega)
                 · (simp only [List.nil_append, List.append_nil, List.length_append, List.length_cons, List.length_nil, List.length_take, List.length_drop, maxLen]; omega)
                 · exact hU1.size
                 intro v2 w2 hr2 hv2 ho2
                 have hU2 : Upd [] W1 w2 := hU1.trans' hv2 (fun k hk => .inr (hr1.ob_lt k hk).1))
              | (refine step_row_append rfl (.tmp 40) (.tmp 43) _ rfl (K := rsE.kd) (M := []) (B := W1.heap.size) (l := [] ++ out.take k ++ [x]) (l2 := out.drop k) (v := v2) rfl rfl ?_ Try.underlying29 HI.out HZ0.out HZ1.out HZ2.out rfl (by decide) ?_ ?_ ?_ ?_ ?_
                 · exact hr2
                 · (have hs2 := SRC2.out w2 (ob v2 ++ []) hU2 (fun k hk => (hr2.ob_lt k (by simpa using hk)).1); simpa [Act.eval] using hs2)
                 · (simp only [List.nil_append, List.append_nil, List.length_append, List.length_cons, List.length_nil, List.length_take, List.length_drop, maxLen]; omega)
                 · (simp only [List.nil_append, List.append_nil, List.length_append, List.length_cons, List.length_nil, List.length_take, List.length_drop, maxLen]; omega)
                 · exact hU2.size
                 intro v3 w3 hr3 hv3 ho3
                 have hU3 : Upd [] W1 w3 := hU2.trans' hv3 (fun k hk => .inr (hr2.ob_lt k hk).1)))
          all_goals
            simp only [Exit.inBlock, Exit.then]
            go_at_K
            go_wp2_with fail
            go_roundw
            case rel => exact ⟨i + 1, by omega, by go_num, by rw [HXS.out, ins4, HIN.out]; exact Lib.hid (hr3.base hBW), Lib.hid (hw.out.trans ((HU1.out.trans hU3).below.mono hw.out.size))⟩
            case measure => simp [intOf]; omega
          -- END TAIL1
        · obtain ⟨k1, hk1⟩ : ∃ k1, k = k1 + 1 := ⟨k - 1, by omega⟩
          have HK1 := Lib.hid hk1
          obtain ⟨y, hy⟩ : ∃ y, out[k1]? = some y := ⟨_, List.getElem?_eq_getElem (by omega)⟩
          obtain ⟨g, og, cg, hvg, hgw, _, _, _, hoky, hy0, hy1⟩ := rs_at HRD.out hy
          simp at hvg
          obtain ⟨rfl, rfl⟩ := hvg
          obtain ⟨q, hq⟩ : ∃ q, nearer x y = q := ⟨_, rfl⟩
          have HIK : Hid (insAt x out (k1 + 1) = if q then insAt x out k1 else k1 + 1) := Lib.hid (by simp only [insAt, hy]; rw [hq])
          have HNR := Lib.hid (fun W => ref04_nearer_calls x y W)
          rw [hq] at HNR
          have FC : Hid (∀ W, Upd [] wr W → W.cell? ⟨b, o + i * 2, none⟩ = some (.int .i64 x.id) ∧ W.cell? ⟨b, o + i * 2 + 1, none⟩ = some (.int .i64 x.far) ∧ W.cell? ⟨g, og + k1 * 2, none⟩ = some (.int .i64 y.id) ∧ W.cell? ⟨g, og + k1 * 2 + 1, none⟩ = some (.int .i64 y.far)) := Lib.hid (fun W hu2 => ⟨(XC.out W (hu.out.trans hu2)).1, (XC.out W (hu.out.trans hu2)).2, ((hu.out.trans hu2).cell (a := ⟨g, _, none⟩) hgw (by simp)).trans hy0, ((hu.out.trans hu2).cell (a := ⟨g, _, none⟩) hgw (by simp)).trans hy1⟩)
          obtain ⟨d0, d1, f0, f1⟩ := FC.out wr (Upd.refl _ _)
          have hkd : decide ((0 : Int) < (k : Int)) = true := by simp; omega
          have hkp : (0 : Int) < (k : Int) := by omega
          have hkdn : decide (0 < k) = true := by simp; omega
          have hko : (k1 : Int) < (out.length : Int) := by omega
          have hk00 : (0 : Int) ≤ (k1 : Int) := by omega
          have hks : (k : Int) - 1 = (k1 : Int) := by omega
          have hksw : IntKind.i64.wrap (k1 : Int) = (k1 : Int) := IntWalk.i64_in _ ⟨by omega, by omega⟩
          have hi1 : (i : Int) < (l.length : Int) := by omega
          have hi00 : (0 : Int) ≤ (i : Int) := by omega
          clear hk1
          clear hy hy0 hy1 hq
          go_wp2_with fail
          go_region_held3 (fun w' => w'.cell? ⟨b, o + i * 2, none⟩ = some (.int .i64 x.id) ∧ w'.cell? ⟨b, o + i * 2 + 1, none⟩ = some (.int .i64 x.far) ∧ w'.cell? ⟨g, og + k1 * 2, none⟩ = some (.int .i64 y.id) ∧ w'.cell? ⟨g, og + k1 * 2 + 1, none⟩ = some (.int .i64 y.far))
            (first | exact ⟨m0, m1, m2, m3⟩ | exact ⟨d0, d1, f0, f1⟩ | go_keep)
            (first
              | (go_at_call 77
                 refine (HNR.out _).mono ?_
                 rintro e W9 ⟨rfl, hb9⟩
                 have hu9 : Upd [] wr W9 := (Upd.drewN [] wr 1).trans (Upd.ofBelow hb9 [])
                 obtain ⟨m0, m1, m2, m3⟩ := FC.out W9 hu9
                 have HU9 := Lib.hid (hu.out.trans hu9)
                 clear hb9 hu9))
          clear m0 m1 m2 m3 d0 d1 f0 f1
          cases q with
          | true =>
            go_wp2_with fail
            go_roundw
            case rel => exact ⟨k1, by omega, rfl, Lib.hid (by rw [hins.out, HK1.out, HIK.out]; rfl), HU9⟩
            case measure => have := HK1.out; simp [intOf]; omega
          | false =>
            have HIN : Hid (insAt x out out.length = k) := Lib.hid (by rw [hins.out, HK1.out, HIK.out]; rfl)
            clear hks hksw hkd hkp hko hk00 hkdn hi1 hi00
            go_wp2_with fail
            generalize (some (Addr.mk g og none)) = ao2 at HRD ⊢
            -- TAIL2
            obtain ⟨W1, hW1⟩ : ∃ W1, W9 = W1 := ⟨_, rfl⟩
            have hu1 : Upd [] wo W1 := by rw [← hW1]; exact HU9.out
            rw [hW1]
            obtain ⟨d0, d1⟩ := XC.out W1 hu1
            have SRC1 : Hid (∀ W' N', Upd [] W1 W' → (∀ k, k ∈ N' → W1.heap.size ≤ k) → rsE.kd.slice.At N' W' [.slice ao2 k cap2] (out.take k)) := Lib.hid (fun W' N' hu hN => (Kd.slice_take HRD.out hk).upd (hu1.trans hu) (by simp) (fun k hk => .inr (Nat.le_trans hu1.size (hN k hk))))
            have SRC2 : Hid (∀ W' N', Upd [] W1 W' → (∀ k, k ∈ N' → W1.heap.size ≤ k) → rsE.kd.slice.At N' W' [.slice (if cap2 = k then ao2 else Option.map (fun x => x.add (k * 2)) ao2) (out.length - k) (cap2 - k)] (out.drop k)) := Lib.hid (fun W' N' hu hN => (Kd.slice_drop HRD.out hk).upd (hu1.trans hu) (by simp) (fun k hk => .inr (Nat.le_trans hu1.size (hN k hk))))
            have HU1 := Lib.hid hu1
            have hBW : w.heap.size ≤ W1.heap.size := Nat.le_trans hw.out.size hu1.size
            have hbW : b < W1.heap.size := Nat.lt_of_lt_of_le hb hu1.size
            have hk0 : (0 : Int) ≤ (k : Int) := by omega
            have hkc : (k : Int) ≤ (cap2 : Int) := by omega
            have hkl : (k : Int) ≤ (out.length : Int) := by omega
            clear hu1 hW1
            go_region_held3 (fun w' => w'.cell? ⟨b, o + i * 2, none⟩ = some (.int .i64 x.id) ∧ w'.cell? ⟨b, o + i * 2 + 1, none⟩ = some (.int .i64 x.far))
              (first | go_keep | exact XC.out _ (HU1.out.trans hU3) | exact XC.out _ (HU1.out.trans hU2) | exact XC.out _ (HU1.out.trans hU1) | exact ⟨d0, d1⟩)
              (first
                | (refine step_row_append rfl (.tmp 30) (.tmp 33) _ rfl (K := rsE.kd) (M := []) (B := W1.heap.size) (l := []) (l2 := out.take k) (v := .slice (some ⟨_, 0, none⟩) 0 0) (u := .slice _ k cap2) rfl rfl ?_ Try.underlying29 HI.out HZ0.out HZ1.out HZ2.out rfl (by decide) ?_ ?_ ?_ ?_ ?_
                   · exact row_new (by (first | exact Go.heap_alloc_new _ _ | exact alloc2_snd _ _ _ | exact alloc2_fst _ _ _ | (refine (Below.heap_alloc _ _ _ (by simp)).trans ?_; exact Go.heap_alloc_new _ _))) (by (first | omega | (simp; omega) | (simp; done)))
                   · exact SRC1.out _ _ (by (first | exact Upd.refl _ _ | exact (Upd.alloc _ _ _).trans (Upd.drew _ _) | exact ((Upd.alloc _ _ _).trans (Upd.alloc _ _ _)).trans (Upd.drew _ _))) (by simp [ob, Value.ownBlock])
                   · (simp only [List.nil_append, List.append_nil, List.length_append, List.length_cons, List.length_nil, List.length_take, List.length_drop, maxLen]; omega)
                   · (simp only [List.nil_append, List.append_nil, List.length_append, List.length_cons, List.length_nil, List.length_take, List.length_drop, maxLen]; omega)
                   · (first | omega | (simp; omega) | (simp; done))
                   intro v1 w1 hr1 hv1 ho1
                   have hU1 : Upd [] W1 w1 := Upd.trans' (by (first | exact Upd.refl _ _ | exact (Upd.alloc _ _ _).trans (Upd.drew _ _) | exact ((Upd.alloc _ _ _).trans (Upd.alloc _ _ _)).trans (Upd.drew _ _))) hv1 (by simp [ob, Value.ownBlock]))
                | (refine step_row_append rfl (.tmp 34) (.tmp 39) _ rfl (K := rsE.kd) (M := []) (B := W1.heap.size) (l := [] ++ out.take k) (l2 := [x]) (v := v1) (u := .slice (some ⟨_, 0, none⟩) 1 1) rfl rfl ?_ Try.underlying29 HI.out HZ0.out HZ1.out HZ2.out rfl (by decide) ?_ ?_ ?_ ?_ ?_
                   · exact hr1.upd (Upd.alloc [] w1 _) (by simp) (by simp) (by simp)
                   · exact rs_one (Go.heap_alloc_new w1 _) (fun hm => by have hq := (hr1.ob_lt _ (by simpa using hm)).2; omega) HOK.out
                   · (simp only [List.nil_append, List.append_nil, List.length_append, List.length_cons, List.length_nil, List.length_take, List.length_drop, maxLen]; omega)
                   · (simp only [List.nil_append, List.append_nil, List.length_append, List.length_cons, List.length_nil, List.length_take, List.length_drop, maxLen]; omega)
                   · (have := hU1.size; (first | omega | (simp; omega) | (simp; done)))
                   intro v2 w2 hr2 hv2 ho2
                   have hU2 : Upd [] W1 w2 := (hU1.trans (Upd.alloc [] w1 _)).trans' hv2 (fun k hk => .inr (hr1.ob_lt k hk).1))
                | (refine step_row_append rfl (.tmp 34) (.tmp 39) _ rfl (K := rsE.kd) (M := []) (B := W1.heap.size) (l := [] ++ out.take k) (l2 := [x]) (v := v1) (w := w1) (u := .slice (some ⟨_, 0, none⟩) 1 1) rfl rfl ?_ Try.underlying29 HI.out HZ0.out HZ1.out HZ2.out rfl (by decide) ?_ ?_ ?_ ?_ ?_
                   · exact hr1
                   · exact rs_one ((hv1.block _ (by (first | omega | (simp; omega) | (simp; done))) (by simp [ob, Value.ownBlock])).trans (by (first | exact Go.heap_alloc_new _ _ | exact alloc2_snd _ _ _ | exact alloc2_fst _ _ _ | (refine (Below.heap_alloc _ _ _ (by simp)).trans ?_; exact Go.heap_alloc_new _ _)))) (fun hm => by
                       rcases ho1 with h | h
                       · rw [List.append_nil, h] at hm; simp [ob, Value.ownBlock] at hm
                       · rw [List.append_nil, h] at hm; simp at hm <;> omega) HOK.out
                   · (simp only [List.nil_append, List.append_nil, List.length_append, List.length_cons, List.length_nil, List.length_take, List.length_drop, maxLen]; omega)
                   · (simp only [List.nil_append, List.append_nil, List.length_append, List.length_cons, List.length_nil, List.length_take, List.length_drop, maxLen]; omega)
                   · exact hU1.size
                   intro v2 w2 hr2 hv2 ho2
                   have hU2 : Upd [] W1 w2 := hU1.trans' hv2 (fun k hk => .inr (hr1.ob_lt k hk).1))
                | (refine step_row_append rfl (.tmp 40) (.tmp 43) _ rfl (K := rsE.kd) (M := []) (B := W1.heap.size) (l := [] ++ out.take k ++ [x]) (l2 := out.drop k) (v := v2) rfl rfl ?_ Try.underlying29 HI.out HZ0.out HZ1.out HZ2.out rfl (by decide) ?_ ?_ ?_ ?_ ?_
                   · exact hr2
                   · (have hs2 := SRC2.out w2 (ob v2 ++ []) hU2 (fun k hk => (hr2.ob_lt k (by simpa using hk)).1); simpa [Act.eval] using hs2)
                   · (simp only [List.nil_append, List.append_nil, List.length_append, List.length_cons, List.length_nil, List.length_take, List.length_drop, maxLen]; omega)
                   · (simp only [List.nil_append, List.append_nil, List.length_append, List.length_cons, List.length_nil, List.length_take, List.length_drop, maxLen]; omega)
                   · exact hU2.size
                   intro v3 w3 hr3 hv3 ho3
                   have hU3 : Upd [] W1 w3 := hU2.trans' hv3 (fun k hk => .inr (hr2.ob_lt k hk).1)))
            all_goals
              simp only [Exit.inBlock, Exit.then]
              go_at_K
              go_wp2_with fail
              go_roundw
              case rel => exact ⟨i + 1, by omega, by go_num, by rw [HXS.out, ins4, HIN.out]; exact Lib.hid (hr3.base hBW), Lib.hid (hw.out.trans ((HU1.out.trans hU3).below.mono hw.out.size))⟩
              case measure => simp [intOf]; omega
            -- END TAIL2
    · go_wp2_with fail
      go_ret
      have e : l.take i = l := List.take_of_length_le (by omega)
      rw [e] at hrow
      exact ⟨_, rfl, hw.out, hrow.out⟩

end Go.Proofs.Ytglghgjbnoldaaa
