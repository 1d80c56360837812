/-
The document's search: Step.
-/
import Derived.Test.YtiplifkbegmeiaaRSeb
import Derived.Deep.DeepCutAuto
import Derived.Deep.CutBlock
namespace Go.Proofs.Ytiplifkbegmeiaa
set_option linter.unusedVariables false
set_option linter.unusedSimpArgs false
open Go.RowKit

theorem tks_at {N : List Nat} {w : World} {v : Value} {l : List Tk} (h : tkE.kd.slice.At N w [v] l) {i : Nat} {x : Tk} (hx : l[i]? = some x) :
    ∃ b o cap, v = .slice (some ⟨b, o, none⟩) l.length cap ∧ b < w.heap.size ∧ b ∉ N ∧ l.length ≤ cap ∧ cap ≤ maxLen ∧ tkE.ok x ∧ w.cell? ⟨b, o + i * 4, none⟩ = some (.int .i64 x.margin) ∧ w.cell? ⟨b, o + i * 4 + 1, none⟩ = some (.int .i64 x.seq) ∧ w.cell? ⟨b, o + i * 4 + 2, none⟩ = some (.int .i64 x.tree) ∧ w.cell? ⟨b, o + i * 4 + 3, none⟩ = some (.int .i64 x.at_) := by
  obtain ⟨b, o, cap, h1, h2, h3, h4, h5, cs', hr, hc⟩ := Kd.slice_get h hx
  obtain ⟨rfl, hok⟩ := Flat.at_ hr
  exact ⟨b, o, cap, h1, h2, h3, h4, h5, hok, hc 0 _ rfl, hc 1 _ rfl, hc 2 _ rfl, hc 3 _ rfl⟩

set_option maxHeartbeats 1000000 in
theorem ref_step_none (N : List Nat) (q : Nat) (F : Fo) (vL vT vv : Value) (s : St) (w : World) (H : IsRW w N q F vL vT vv s) (h0 : s.tasks = []) :
    Calls Try.prog 19 #[.pointer (some ⟨q, 0, none⟩)] w fun e w' => e = .returned (.tuple #[.slice none 0 0, .bool false, .bool false]) ∧ w = w' := by
  obtain ⟨lv, hd, hl⟩ := H.out
  rw [h0] at hl
  obtain ⟨al, cl, rfl, _, _⟩ := Kd.slice_form hl
  obtain ⟨c4, c5, c6, c7, c8⟩ := rwalk_cells hd
  clear c4 c5 c7 c8 hd hl H h0
  simp only [List.length_nil] at c6
  go_enter Try.func19, Try.ntmps19
  go_wp2_with fail
  refine bodyPost_ret (results_tmp3 rfl _ _ _) rfl ?_
  exact ⟨rfl, rfl⟩

theorem bestTo_succ {l : List Tk} {i : Nat} (h : 1 ≤ i) : bestTo l (i + 1) = if ahead (l.getD i tk00) (l.getD (bestTo l i) tk00) then i else bestTo l i := by
  conv => lhs; unfold bestTo
  rw [if_neg (by omega)]

/-- What the test of two tasks is made of. -/
theorem ahead_cases (a b : Tk) : (b.margin < a.margin ∧ ahead a b = true) ∨ (¬ b.margin < a.margin ∧ (a.margin == b.margin) = true ∧ a.seq < b.seq ∧ ahead a b = true) ∨ (¬ b.margin < a.margin ∧ (a.margin == b.margin) = true ∧ ¬ a.seq < b.seq ∧ ahead a b = false) ∨ (¬ b.margin < a.margin ∧ (a.margin == b.margin) = false ∧ ahead a b = false) := by
  by_cases h1 : b.margin < a.margin
  · exact .inl ⟨h1, by simp [ahead, h1]⟩
  · by_cases h2 : a.margin = b.margin
    · have h2' : (a.margin == b.margin) = true := by simpa using h2
      by_cases h3 : a.seq < b.seq
      · exact .inr (.inl ⟨h1, h2', h3, by simp [ahead, h1, h2, h3]⟩)
      · exact .inr (.inr (.inl ⟨h1, h2', h3, by simp [ahead, h1, h2, h3]⟩))
    · have h2' : (a.margin == b.margin) = false := by simpa using h2
      exact .inr (.inr (.inr ⟨h1, h2', by simp [ahead, h1, h2]⟩))

def RStepPost (F : Fo) (v : List Int) (s : St) (N : List Nat) (q : Nat) (vL vT vv : Value) (w : World) (e : Ending) (w' : World) : Prop :=
  IsRW w' N q F vL vT vv (stepS F.T v s) ∧ Upd [q] w w' ∧
    ((∃ ids vi, outS F.T s = some ids ∧ e = .returned (.tuple #[vi, .bool true, .bool true]) ∧ (Kd.int .i64).slice.At N w' [vi] ids) ∨ (outS F.T s = none ∧ e = .returned (.tuple #[.slice none 0 0, .bool false, .bool true])))

set_option maxHeartbeats 8000000 in
set_option maxRecDepth 100000 in
theorem ref_step_some (N : List Nat) (q : Nat) (F : Fo) (dim : Int) (vL vT vv : Value) (v : List Int) (s : St) (trs : List Tr) (w : World) (H : IsRW w N q F vL vT vv s)
    (hT : kNd.slice.slice.At N w [vT] F.T) (hvv : (Kd.int .i32).slice.At N w [vv] v) (hqN : q ∈ N) (hN : ∀ k, k ∈ N → k < w.heap.size) (ok : StOk F.T dim s trs) (hvb : Bd21 v) (h0 : 0 < s.tasks.length)
    (hn : s.next + 2 ≤ 1099511627776) (hst : s.steps ≤ 1099511627776) (hlen : s.tasks.length + 2 ≤ 1099511627776) :
    Calls Try.prog 19 #[.pointer (some ⟨q, 0, none⟩)] w (RStepPost F v s N q vL vT vv w) := by
  obtain ⟨lv, hd, hl⟩ := H.out
  have hbx : bestIx s.tasks < s.tasks.length := bestTo_lt _ _ h0
  obtain ⟨tk0', htk0⟩ : ∃ t, s.tasks[0]? = some t := ⟨_, List.getElem?_eq_getElem h0⟩
  obtain ⟨bl, ol, cl, rfl, hbl, hblN, hlc, hcm, -⟩ := tks_at hl htk0
  unfold maxLen at hcm
  have hql := block_lt hd
  obtain ⟨c4, c5, c6, c7, c8⟩ := rwalk_cells hd
  have HD := Lib.hid hd
  have HL := Lib.hid hl
  have HT := Lib.hid hT
  have HV := Lib.hid hvv
  have HOK := Lib.hid ok
  have HVB := Lib.hid hvb
  have HNN := Lib.hid hN
  have HLEN := Lib.hid hlen
  have HNX := Lib.hid hn
  have HST := Lib.hid hst
  have HBX := Lib.hid hbx
  have H00 := Lib.hid h0
  have hn1 : (s.tasks.length : Int) ≤ 1099511627776 := by omega
  have hn0 : ((s.tasks.length : Int) == 0) = false := by rw [beq_eq_false_iff_ne]; omega
  clear c4 c5 c7 c8 hd hl hT hvv ok hvb hN hlen hn hst H htk0 h0
  go_enter Try.func19, Try.ntmps19
  go_wp2_with fail
  clear c6
  go_loopw [5, 6] (fun bv iv wr => ∃ i : Nat, 1 ≤ i ∧ i ≤ s.tasks.length ∧ iv = .int .i64 i ∧ bv = .int .i64 (bestTo s.tasks i : Nat) ∧ Hid (Upd [] w wr)) (fun _ iv _ => s.tasks.length - (intOf iv).toNat)
  case atStart => exact ⟨1, Nat.le_refl _, by have := H00.out; omega, rfl, rfl, Lib.hid (Upd.refl _ _)⟩
  case round =>
    obtain ⟨i, hi1, hik, rfl, rfl, hu⟩ := hrel
    have hdr := upd_far hu.out HD.out (by simp)
    obtain ⟨c4, c5, c6, c7, c8⟩ := rwalk_cells hdr
    by_cases hlt : i < s.tasks.length
    · obtain ⟨xa, hxa⟩ : ∃ t, s.tasks[i]? = some t := ⟨_, List.getElem?_eq_getElem hlt⟩
      have hbt := bestTo_lt s.tasks i (by omega)
      obtain ⟨xb, hxb⟩ : ∃ t, s.tasks[bestTo s.tasks i]? = some t := ⟨_, List.getElem?_eq_getElem (by omega)⟩
      have hsucc := bestTo_succ (l := s.tasks) (i := i) (by omega)
      rw [show s.tasks.getD i tk00 = xa by simp [List.getD_eq_getElem?_getD, hxa], show s.tasks.getD (bestTo s.tasks i) tk00 = xb by simp [List.getD_eq_getElem?_getD, hxb]] at hsucc
      generalize bestTo s.tasks i = b at *
      have hlr := HL.out.upd hu.out (by simp) (fun j hj => .inl hj)
      obtain ⟨b1, o1, q1, hv1, hb1l, _, _, _, _, a0, a1, a2, a3⟩ := tks_at hlr hxa
      obtain ⟨b2, o2, q2, hv2, _, _, _, _, _, e0, e1, e2, e3⟩ := tks_at hlr hxb
      simp at hv1 hv2
      obtain ⟨⟨rfl, rfl⟩, rfl⟩ := hv1
      obtain ⟨⟨rfl, rfl⟩, rfl⟩ := hv2
      have CB : Hid (∀ W, Upd [] wr W → (W.cell? ⟨q, 6, none⟩ = some (.slice (some ⟨bl, ol, none⟩) s.tasks.length cl) ∧ W.cell? ⟨bl, ol + i * 4, none⟩ = some (.int .i64 xa.margin) ∧ W.cell? ⟨bl, ol + i * 4 + 1, none⟩ = some (.int .i64 xa.seq) ∧ W.cell? ⟨bl, ol + i * 4 + 2, none⟩ = some (.int .i64 xa.tree) ∧ W.cell? ⟨bl, ol + i * 4 + 3, none⟩ = some (.int .i64 xa.at_) ∧
          W.cell? ⟨bl, ol + b * 4, none⟩ = some (.int .i64 xb.margin) ∧ W.cell? ⟨bl, ol + b * 4 + 1, none⟩ = some (.int .i64 xb.seq) ∧ W.cell? ⟨bl, ol + b * 4 + 2, none⟩ = some (.int .i64 xb.tree) ∧ W.cell? ⟨bl, ol + b * 4 + 3, none⟩ = some (.int .i64 xb.at_))) := Lib.hid (fun W hW =>
        ⟨(hW.cell (block_lt hdr) (by simp)).trans c6, (hW.cell hb1l (by simp)).trans a0, (hW.cell hb1l (by simp)).trans a1, (hW.cell hb1l (by simp)).trans a2, (hW.cell hb1l (by simp)).trans a3, (hW.cell hb1l (by simp)).trans e0, (hW.cell hb1l (by simp)).trans e1, (hW.cell hb1l (by simp)).trans e2, (hW.cell hb1l (by simp)).trans e3⟩)
      have i0 : (0 : Int) ≤ (i : Int) := by omega
      have i1 : (i : Int) < (s.tasks.length : Int) := by omega
      have j0 : (0 : Int) ≤ (b : Int) := by omega
      have j1 : (b : Int) < (s.tasks.length : Int) := by omega
      have hcs := ahead_cases xa xb
      have HSUCC := Lib.hid hsucc
      clear c4 c5 c7 c8 hlr hdr hxa hxb hsucc a0 a1 a2 a3 e0 e1 e2 e3
      rcases hcs with ⟨t1, t4⟩ | ⟨t1, t2, t3, t4⟩ | ⟨t1, t2, t3, t4⟩ | ⟨t1, t2, t4⟩
      all_goals
        have HS2 := HSUCC.out
        rw [t4] at HS2
        simp only [if_true, Bool.false_eq_true, if_false] at HS2
        have HS3 := Lib.hid HS2
        clear HS2 t4 HSUCC
        go_wp2_with fail
        go_region_held3 (fun w' => w'.cell? ⟨q, 6, none⟩ = some (.slice (some ⟨bl, ol, none⟩) s.tasks.length cl) ∧ w'.cell? ⟨bl, ol + i * 4, none⟩ = some (.int .i64 xa.margin) ∧ w'.cell? ⟨bl, ol + i * 4 + 1, none⟩ = some (.int .i64 xa.seq) ∧ w'.cell? ⟨bl, ol + i * 4 + 2, none⟩ = some (.int .i64 xa.tree) ∧ w'.cell? ⟨bl, ol + i * 4 + 3, none⟩ = some (.int .i64 xa.at_) ∧
            w'.cell? ⟨bl, ol + b * 4, none⟩ = some (.int .i64 xb.margin) ∧ w'.cell? ⟨bl, ol + b * 4 + 1, none⟩ = some (.int .i64 xb.seq) ∧ w'.cell? ⟨bl, ol + b * 4 + 2, none⟩ = some (.int .i64 xb.tree) ∧ w'.cell? ⟨bl, ol + b * 4 + 3, none⟩ = some (.int .i64 xb.at_))
          (first | exact CB.out _ (Upd.drewN [] wr 1) | exact CB.out _ ((Upd.alloc [] _ _).trans (Upd.drewN [] _ 1)) | exact CB.out _ (((Upd.alloc [] _ _).trans (Upd.alloc [] _ _)).trans (Upd.drewN [] _ 1)) | go_keep)
          (fail)
        all_goals
          go_wp2_with fail
          go_roundw
          case rel => exact ⟨i + 1, by omega, by omega, by go_num, by rw [HS3.out], Lib.hid (hu.out.trans (((Upd.alloc [] _ _).trans (Upd.alloc [] _ _)).trans (Upd.drew [] _)))⟩
          case measure => simp [intOf]; omega
    · have hin : i = s.tasks.length := by omega
      obtain ⟨b, hb⟩ : ∃ b, bestIx s.tasks = b := ⟨_, rfl⟩
      have hbi : bestTo s.tasks i = b := by rw [hin]; exact hb
      rw [hbi]
      have HB := Lib.hid hb
      have hbn : b < s.tasks.length := by rw [← hb]; exact HBX.out
      obtain ⟨tk, htk⟩ : ∃ t, s.tasks[b]? = some t := ⟨_, List.getElem?_eq_getElem hbn⟩
      have hgt : s.tasks.getD b tk00 = tk := by simp [List.getD_eq_getElem?_getD, htk]
      obtain ⟨tr, htr⟩ : ∃ tr, trs[b]? = some tr := ⟨_, List.getElem?_eq_getElem (by rw [HOK.out.len]; exact hbn)⟩
      obtain ⟨k, a, lst, x, e1, e2, hk, hx, hnode, hcase⟩ := tk_node (HOK.out.ok _ _ _ htk htr)
      have hlo := (HOK.out.ok _ _ _ htk htr).lo
      have hhi := (HOK.out.ok _ _ _ htk htr).hi
      have HGT := Lib.hid hgt
      have HND := Lib.hid hnode
      have hlr := HL.out.upd hu.out (by simp) (fun j hj => .inl hj)
      obtain ⟨b1, o1, q1, hv1, hb1l, _, _, _, htok, a0, a1, a2, a3⟩ := tks_at hlr htk
      simp at hv1
      obtain ⟨⟨rfl, rfl⟩, rfl⟩ := hv1
      obtain ⟨tm, ts, tt, ta⟩ := tk
      simp only at e1 e2 hlo hhi a0 a1 a2 a3
      subst e1 e2
      have j0 : (0 : Int) ≤ (b : Int) := by omega
      have j1 : (b : Int) < (s.tasks.length : Int) := by omega
      have HTOK := Lib.hid htok
      have HCS := Lib.hid hcase
      have HBN := Lib.hid hbn
      have HIN := Lib.hid hin
      have HLR := Lib.hid hlr
      have HDR := Lib.hid hdr
      have HKX := Lib.hid (And.intro hk hx)
      obtain ⟨W2, hW2⟩ : ∃ W2, wr.alloc (.cells #[.int .i64 tm, .int .i64 ts, .int .i64 (k : Int), .int .i64 (a : Int)] 89) = W2 := ⟨_, rfl⟩
      have hu2 : Upd [] wr W2 := by rw [← hW2]; exact Upd.alloc [] wr _
      have HY2 : Hid (W2.heap[wr.heap.size]? = some (.cells #[.int .i64 tm, .int .i64 ts, .int .i64 (k : Int), .int .i64 (a : Int)] 89)) := Lib.hid (by rw [← hW2]; exact Go.heap_alloc_new wr _)
      have HU2 := Lib.hid (hu.out.trans hu2)
      have HU2' := Lib.hid hu2
      have c6' : W2.cell? ⟨q, 6, none⟩ = some (.slice (some ⟨bl, ol, none⟩) s.tasks.length cl) := (hu2.cell (block_lt hdr) (by simp)).trans c6
      have f6' : W2.frozen? ⟨q, 6, none⟩ = false := (hu2.frozen (block_lt hdr) (by simp)).trans (frozen_of_block hdr)
      clear hbi hb htk hgt htr hk hx hnode hcase hlr hdr htok hu2 c4 c5 c7 c8 hbx hin
      go_upto_region 11 with fail
      have hbw : IntKind.i64.wrap ((b : Int) + 1) = (b : Int) + 1 := IntWalk.i64_in _ ⟨by omega, by omega⟩
      have b10 : (0 : Int) ≤ (b : Int) + 1 := by omega
      have b11 : (b : Int) + 1 ≤ (s.tasks.length : Int) := by omega
      have b12 : (s.tasks.length : Int) ≤ (cl : Int) := by omega
      have b13 : ((b : Int) + 1).toNat = b + 1 := by omega
      have b14 : (b : Int) ≤ (cl : Int) := by omega
      have b15 : (b : Int) ≤ (b : Int) + 1 := by omega
      have SRC1 : Hid (∀ W (m : List Nat), Upd [] W2 W → (∀ k, k ∈ m → W2.heap.size ≤ k) → tkE.kd.slice.At m W [.slice (some ⟨bl, ol, none⟩) b cl] (s.tasks.take b)) := Lib.hid (fun W m hu' hk => Kd.slice_take ((HLR.out.upd HU2'.out (by simp) (fun j hj => .inl hj)).upd hu' (by simp) (fun k hk' => .inr (hk k hk'))) (by omega))
      have SRC2 : Hid (∀ W (m : List Nat), Upd [] W2 W → (∀ k, k ∈ m → W2.heap.size ≤ k) → tkE.kd.slice.At m W [.slice (if cl = b + 1 then some ⟨bl, ol, none⟩ else (some (⟨bl, ol, none⟩ : Addr)).map (fun x => x.add ((b + 1) * tkE.kd.sz))) (s.tasks.length - (b + 1)) (cl - (b + 1))] (s.tasks.drop (b + 1))) := Lib.hid (fun W m hu' hk => Kd.slice_drop ((HLR.out.upd HU2'.out (by simp) (fun j hj => .inl hj)).upd hu' (by simp) (fun k hk' => .inr (hk k hk'))) (by omega))
      have E4 : Hid ((some (⟨bl, ol, none⟩ : Addr)).map (fun x => x.add ((b + 1) * tkE.kd.sz)) = some ⟨bl, ol + (b + 1) * 4, none⟩) := Lib.hid (by simp [Addr.add]; rfl)
      obtain ⟨lw, hlw⟩ : ∃ lw, ([] ++ s.tasks.take b ++ s.tasks.drop (b + 1)) = lw := ⟨_, rfl⟩
      have HLW := Lib.hid hlw
      clear hlw
      obtain ⟨i0, hi, hz0, hz1, hz2⟩ := info_parts A.infoRTask
      have HI := Lib.hid hi
      have HZ0 := Lib.hid hz0
      have HZ1 := Lib.hid hz1
      have HZ2 := Lib.hid hz2
      have hql2 : q < W2.heap.size := Nat.lt_of_lt_of_le hql HU2.out.size
      clear hi hz0 hz1 hz2 hW2
      have hlt1 : (s.tasks.take b).length = b := by rw [List.length_take]; omega
      have HLT1 := Lib.hid hlt1
      clear hlt1
      have HDQ2 := Lib.hid (upd_far HU2'.out HDR.out (by simp))
      go_cut [] (fun wx => Hid (IsRW wx N q F vL vT vv ⟨lw, s.steps, s.next⟩) ∧ Hid (Upd [q] W2 wx))
      case first =>
        go_region_law (first
          | (refine step_row_append rfl (.tmp 71) (.tmp 77) _ rfl (K := tkE.kd) (M := []) (B := W2.heap.size) (l := []) (l2 := s.tasks.take b) (v := .slice (some ⟨_, 0, none⟩) 0 0) rfl rfl ?_ Try.underlying83 HI.out HZ0.out HZ1.out HZ2.out rfl (by decide) ?_ ?_ ?_ ?_ ?_
             · exact row_new (by (first | exact Go.heap_alloc_new _ _ | exact alloc2_snd _ _ _ | exact alloc2_fst _ _ _)) (by (first | exact Nat.le_refl _ | omega | (simp; omega) | (simp; done)))
             · exact SRC1.out _ _ (by (first | exact Upd.alloc _ _ _ | exact (Upd.alloc _ _ _).trans (Upd.drew _ _) | exact ((Upd.alloc _ _ _).trans (Upd.alloc _ _ _)).trans (Upd.drew _ _) | exact (Upd.alloc _ _ _).trans (Upd.alloc _ _ _))) (by simp [ob, Value.ownBlock])
             · (simp only [HLT1.out, List.length_nil, maxLen]; omega)
             · (simp only [HLT1.out, List.length_nil]; omega)
             · (first | exact Nat.le_refl _ | omega | (simp; omega) | (simp; done))
             intro v1 w1 hr1 hv1 ho1
             have hU1 : Upd [] W2 w1 := Upd.trans' (by (first | exact Upd.alloc _ _ _ | exact (Upd.alloc _ _ _).trans (Upd.drew _ _) | exact ((Upd.alloc _ _ _).trans (Upd.alloc _ _ _)).trans (Upd.drew _ _) | exact (Upd.alloc _ _ _).trans (Upd.alloc _ _ _))) hv1 (by simp [ob, Value.ownBlock])
             have g6 : w1.cell? ⟨q, 6, none⟩ = _ := (hU1.cell hql2 (by simp)).trans c6'
             have hq1 : q < w1.heap.size := Nat.lt_of_lt_of_le hql2 hU1.size)
          | (refine step_row_append rfl (.tmp 78) (.tmp 85) _ rfl (K := tkE.kd) (M := []) (B := W2.heap.size) (l := [] ++ s.tasks.take b) (l2 := s.tasks.drop (b + 1)) (v := v1) (w := w1) rfl rfl ?_ Try.underlying83 HI.out HZ0.out HZ1.out HZ2.out rfl (by decide) ?_ ?_ ?_ ?_ ?_
             · exact hr1
             · (have hs2 := SRC2.out w1 (ob v1 ++ []) hU1 (fun k hk => (hr1.ob_lt k (by simpa using hk)).1)
                rw [E4.out] at hs2
                exact hs2)
             · (simp only [List.nil_append, HLT1.out, List.length_drop, maxLen]; omega)
             · (simp only [List.nil_append, HLT1.out, List.length_drop]; omega)
             · exact hU1.size
             intro v2 w2 hr2 hv2 ho2
             have hU2 : Upd [] W2 w2 := hU1.trans' hv2 (fun k hk => .inr (hr1.ob_lt k hk).1)
             rw [HLW.out] at hr2
             obtain ⟨a2, c2, rfl, hl2, hc2⟩ := row_form hr2
             have g6 : w2.cell? ⟨q, 6, none⟩ = _ := (hU2.cell hql2 (by simp)).trans c6'
             have k6 : w2.frozen? ⟨q, 6, none⟩ = false := (hU2.frozen hql2 (by simp)).trans f6'))
        all_goals
          first
            | go_meet
            | (go_wp2_with fail; all_goals go_meet)
        all_goals
          have hd2 := (hU2.block q hql2 (by simp)).trans HDQ2.out
          have hus : Upd [q] w2 (w2.setCell ⟨q, 6, none⟩ (.slice a2 lw.length c2)) := Upd.setCell (by simp) _
          have hob := hr2.ob_lt
          refine ⟨Lib.hid ⟨.slice a2 lw.length c2, (heap_setCell_same w2 q 6 _ _ _ hd2).trans (by simp), ?_⟩, Lib.hid ((hU2.mono (by simp)).trans hus)⟩
          exact ((hr2.flat_any (M' := N)).read (fun k hk hm => by have := (hob k hk).1; have := HNN.out k hm; have := HU2.out.size; omega)).upd hus (by simp; exact hqN) (fun k hk => .inl hk)
      case rest =>
        obtain ⟨hrw, huw⟩ := hcut
        obtain ⟨lv5, hd5, hl5⟩ := hrw.out.out
        have hqw := block_lt hd5
        obtain ⟨ST, hST⟩ : ∃ n : Int, (s.steps : Int) = n := ⟨_, rfl⟩
        have st0 : 0 ≤ ST := by omega
        have st1 : ST ≤ 1099511627776 := by have := HST.out; omega
        have HSTE := Lib.hid hST
        simp only at hd5 hl5
        rw [hST] at hd5
        obtain ⟨_, _, _, d7, _⟩ := rwalk_cells hd5
        have f7 : wc.frozen? ⟨q, 7, none⟩ = false := frozen_of_block hd5
        obtain ⟨W3, hW3⟩ : ∃ W3, wc.setCell ⟨q, 7, none⟩ (.int .i64 (ST + 1)) = W3 := ⟨_, rfl⟩
        have hu3 : Upd [q] wc W3 := by rw [← hW3]; exact Upd.setCell (by simp) _
        have hd3 : W3.heap[q]? = some (.cells #[.int .i64 F.dim, .int .i64 F.leaf, .int .i64 F.depth, vL, vT, vv, lv5, .int .i64 (ST + 1), .int .i64 (s.next : Int)] 85) := by
          rw [← hW3]; exact (heap_setCell_same wc q 7 _ _ _ hd5).trans (by simp)
        have hrn : wr.heap.size ≠ q := by have := hu.out.size; omega
        have hy3 := upd_far hu3 (upd_far huw.out HY2.out (by simpa using hrn)) (by simpa using hrn)
        have hu03 : Upd [q] w W3 := ((HU2.out.mono (by simp)).trans huw.out).trans hu3
        have HRW3 : Hid (IsRW W3 N q F vL vT vv ⟨lw, s.steps + 1, s.next⟩) := Lib.hid ⟨lv5, by rw [hd3, ← hST]; simp, hl5.upd hu3 (by simp; exact hqN) (fun j hj => .inl hj)⟩
        have HT3 := Lib.hid (HT.out.upd hu03 (by simp; exact hqN) (fun j hj => .inl hj))
        have HV3 := Lib.hid (HV.out.upd hu03 (by simp; exact hqN) (fun j hj => .inl hj))
        have HU03 := Lib.hid hu03
        have hk := HKX.out.1
        have hx := HKX.out.2
        obtain ⟨bT, oT, cT, vi, hvT, hbT, _, _, _, cT0, hlst⟩ := lists_at HT3.out hk
        subst hvT
        obtain ⟨bN, oN, cN, vi2, vn, hvN, hbN, _, _, _, hnd, n0, n1, n2, n3, n4, n5⟩ := nds_at hlst hx
        subst hvN
        obtain ⟨ai, ci, rfl, _, _⟩ := slice_form' hnd.ids
        obtain ⟨an, cn, rfl, _, _⟩ := slice_form' hnd.normal
        have kl := (List.getElem?_eq_some_iff.1 hk).1
        have al := (List.getElem?_eq_some_iff.1 hx).1
        have k0 : (0 : Int) ≤ (k : Int) := by omega
        have k1 : (k : Int) < (F.T.length : Int) := by omega
        have a0' : (0 : Int) ≤ (a : Int) := by omega
        have a1' : (a : Int) < (lst.length : Int) := by omega
        have s4 : W3.cell? ⟨q, 4, none⟩ = some (.slice (some ⟨bT, oT, none⟩) F.T.length cT) := by rw [cell_of_block hd3]; rfl
        have y2 : W3.cell? ⟨wr.heap.size, 2, none⟩ = some (.int .i64 (k : Int)) := by rw [cell_of_block hy3]; rfl
        have y3 : W3.cell? ⟨wr.heap.size, 3, none⟩ = some (.int .i64 (a : Int)) := by rw [cell_of_block hy3]; rfl
        have CB : Hid (∀ W, Upd [] W3 W → (W.cell? ⟨q, 4, none⟩ = some (.slice (some ⟨bT, oT, none⟩) F.T.length cT) ∧ W.cell? ⟨wr.heap.size, 2, none⟩ = some (.int .i64 (k : Int)) ∧ W.cell? ⟨wr.heap.size, 3, none⟩ = some (.int .i64 (a : Int)) ∧ W.cell? ⟨bT, oT + k, none⟩ = some (.slice (some ⟨bN, oN, none⟩) lst.length cN) ∧
            W.cell? ⟨bN, oN + a * 6, none⟩ = some (.bool x.leaf) ∧ W.cell? ⟨bN, oN + a * 6 + 1, none⟩ = some (.slice ai x.ids.length ci) ∧ W.cell? ⟨bN, oN + a * 6 + 2, none⟩ = some (.slice an x.pl.normal.length cn) ∧ W.cell? ⟨bN, oN + a * 6 + 3, none⟩ = some (.int .i64 x.pl.off) ∧ W.cell? ⟨bN, oN + a * 6 + 4, none⟩ = some (.int .i64 x.left) ∧ W.cell? ⟨bN, oN + a * 6 + 5, none⟩ = some (.int .i64 x.right))) := Lib.hid (fun W hW =>
          ⟨(hW.cell (block_lt hd3) (by simp)).trans s4, (hW.cell (block_lt hy3) (by simp)).trans y2, (hW.cell (block_lt hy3) (by simp)).trans y3, (hW.cell hbT (by simp)).trans cT0, (hW.cell hbN (by simp)).trans n0, (hW.cell hbN (by simp)).trans n1, (hW.cell hbN (by simp)).trans n2, (hW.cell hbN (by simp)).trans n3, (hW.cell hbN (by simp)).trans n4, (hW.cell hbN (by simp)).trans n5⟩)
        have HNDR := Lib.hid hnd
        have HY3 := Lib.hid hy3
        have HD3 := Lib.hid hd3
        have HLWE : Hid (lw = without s.tasks b) := Lib.hid (by rw [← HLW.out]; rfl)
        clear hrw huw hd5 hl5 hST hu3 hd3 hy3 hu03 hk hx hlst hnd cT0 n0 n1 n2 n3 n4 n5 kl al s4 y2 y3 HT HV c6 c6' f6' a0 a1 a2 a3 hbw b10 b11 b12 b13 b14 b15 SRC1 SRC2
        go_wp2_with fail
        go_region_held3 (fun w' => w'.cell? ⟨q, 4, none⟩ = some (.slice (some ⟨bT, oT, none⟩) F.T.length cT) ∧ w'.cell? ⟨wr.heap.size, 2, none⟩ = some (.int .i64 (k : Int)) ∧ w'.cell? ⟨wr.heap.size, 3, none⟩ = some (.int .i64 (a : Int)) ∧ w'.cell? ⟨bT, oT + k, none⟩ = some (.slice (some ⟨bN, oN, none⟩) lst.length cN) ∧
            w'.cell? ⟨bN, oN + a * 6, none⟩ = some (.bool x.leaf) ∧ w'.cell? ⟨bN, oN + a * 6 + 1, none⟩ = some (.slice ai x.ids.length ci) ∧ w'.cell? ⟨bN, oN + a * 6 + 2, none⟩ = some (.slice an x.pl.normal.length cn) ∧ w'.cell? ⟨bN, oN + a * 6 + 3, none⟩ = some (.int .i64 x.pl.off) ∧ w'.cell? ⟨bN, oN + a * 6 + 4, none⟩ = some (.int .i64 x.left) ∧ w'.cell? ⟨bN, oN + a * 6 + 5, none⟩ = some (.int .i64 x.right))
          (first | exact CB.out _ (Upd.drewN [] W3 1) | exact CB.out _ ((Upd.drewN [] W3 1).trans (Upd.alloc [] _ _)) | exact CB.out _ ((Upd.alloc [] _ _).trans (Upd.drewN [] _ 1)) | go_keep)
          (fail)
        generalize hW4 : World.drew _ = W4
        have hu4 : Upd [] W3 W4 := by rw [← hW4]; exact (Upd.alloc [] W3 _).trans (Upd.drew [] _)
        have hz4 : W4.heap[W3.heap.size]? = some (.cells #[.bool x.leaf, .slice ai x.ids.length ci, .slice an x.pl.normal.length cn, .int .i64 x.pl.off, .int .i64 x.left, .int .i64 x.right] 58) := by rw [← hW4]; exact Go.heap_alloc_new W3 _
        have HU4 := Lib.hid hu4
        have HZ4 := Lib.hid hz4
        have HY4 := Lib.hid (upd_far hu4 HY3.out (by simp))
        have HRW4 := Lib.hid (HRW3.out.upd hu4 (by simp) (by simp) (N' := N) (fun j hj => .inl hj))
        have HD4 := Lib.hid (upd_far hu4 HD3.out (by simp))
        have HND4 := Lib.hid (HNDR.out.below hu4.below)
        have HV4 := Lib.hid (HV3.out.below hu4.below)
        clear hW4 hW3 hu4
        rcases HCS.out with ⟨hlf, -⟩ | ⟨hlf, ta2, tb2, -, hpl, -, -, -, -⟩
        · have b0 : W4.cell? ⟨W3.heap.size, 0, none⟩ = some (.bool true) := by rw [cell_of_block hz4, hlf]; rfl
          have b1 : W4.cell? ⟨W3.heap.size, 1, none⟩ = some (.slice ai x.ids.length ci) := by rw [cell_of_block hz4]; rfl
          have HLF := Lib.hid hlf
          clear hz4 hlf
          go_wp2_with fail
          all_goals
            refine bodyPost_ret (results_tmp3 rfl _ _ _) rfl ?_
            refine ⟨HRW4.out.same ?_, HU03.out.trans (HU4.out.mono (by simp)), .inl ⟨x.ids, _, ?_, rfl, HND4.out.ids⟩⟩
            · unfold stepS
              simp only [HB.out, HGT.out, HND.out, HLF.out, if_true, HLWE.out]
            · unfold outS
              simp only [HB.out, HGT.out, HND.out, HLF.out, if_true]
        · have HLF := Lib.hid hlf
          have HMG : Hid (∀ W, Upd [] W4 W → Calls Try.prog 41 #[.agg #[.slice an x.pl.normal.length cn, .int .i64 x.pl.off], vv] W fun e w' => e = .returned (.int .i64 (marg x.pl v)) ∧ Below W.heap.size W w') :=
            Lib.hid (fun W hW => ref11_margin_calls _ _ x.pl v dim N W (HND4.out.normal.below hW.below) (HV4.out.below hW.below) hpl HVB.out)
          have hmb := marg_bd hpl HVB.out
          obtain ⟨MG, hMG⟩ : ∃ g, marg x.pl v = g := ⟨_, rfl⟩
          rw [hMG] at HMG hmb
          have HMGE := Lib.hid hMG
          obtain ⟨mg0, mg1⟩ := hmb
          have b0 : W4.cell? ⟨W3.heap.size, 0, none⟩ = some (.bool false) := by rw [cell_of_block hz4, hlf]; rfl
          have CB4 : Hid (∀ W, Upd [] W4 W → W.cell? ⟨W3.heap.size, 2, none⟩ = some (.slice an x.pl.normal.length cn) ∧ W.cell? ⟨W3.heap.size, 3, none⟩ = some (.int .i64 x.pl.off) ∧ W.cell? ⟨q, 5, none⟩ = some vv) := Lib.hid (fun W hW => by
            have h1 := upd_far hW HZ4.out (by simp)
            obtain ⟨_, c5, _⟩ := rwalk_cells (upd_far hW HD4.out (by simp))
            exact ⟨by rw [cell_of_block h1]; rfl, by rw [cell_of_block h1]; rfl, c5⟩)
          obtain ⟨av, cv, rfl, _, _⟩ := Kd.slice_form HV4.out
          obtain ⟨m1, hm1⟩ : ∃ y, min tm (-MG) = y := ⟨_, rfl⟩
          obtain ⟨m2, hm2⟩ : ∃ y, min tm MG = y := ⟨_, rfl⟩
          have HM1 := Lib.hid hm1
          have HM2 := Lib.hid hm2
          have wfm1 : (Lit.int .i64 m1).wf = true := int64_wf (by omega) (by omega)
          have wfm2 : (Lit.int .i64 m2).wf = true := int64_wf (by omega) (by omega)
          have HWF := Lib.hid (And.intro wfm1 wfm2)
          clear hz4 hlf hpl hMG hm1 hm2 wfm1 wfm2
          go_wp2_with fail
          go_region_held3 (fun w' => w'.cell? ⟨W3.heap.size, 2, none⟩ = some (.slice an x.pl.normal.length cn) ∧ w'.cell? ⟨W3.heap.size, 3, none⟩ = some (.int .i64 x.pl.off) ∧ w'.cell? ⟨q, 5, none⟩ = some (.slice av v.length cv))
            (first | exact CB4.out _ HU5.out | exact CB4.out _ (Upd.drewN [] W4 1) | go_keep)
            (first
              | (go_at_call 41
                 refine (HMG.out _ (Upd.drewN [] W4 _)).mono ?_
                 rintro e w5 ⟨rfl, hb5⟩
                 have HU5 : Hid (Upd [] W4 w5) := Lib.hid ((Upd.drewN [] W4 1).trans (Upd.ofBelow hb5 []))
                 clear hb5))
          have HRW5 := Lib.hid (HRW4.out.upd HU5.out (by simp) (by simp) (N' := N) (fun j hj => .inl hj))
          have HY5 := Lib.hid (upd_far HU5.out HY4.out (by simp))
          have HZ5 := Lib.hid (upd_far HU5.out HZ4.out (by simp))
          have hz5 : w.heap.size ≤ w5.heap.size := Nat.le_trans HU03.out.size (Nat.le_trans HU4.out.size HU5.out.size)
          have t0 : w5.cell? ⟨wr.heap.size, 0, none⟩ = some (.int .i64 tm) := by rw [cell_of_block HY5.out]; rfl
          clear HMG CB4 b0
          go_wp2_with fail
          go_quiet (fail)
          have HP1 : Hid (∀ n y, y = m1 → Calls Try.prog 40 #[.pointer (some ⟨q, 0, none⟩), .int .i64 y, .int .i64 (k : Int), .int .i64 x.left] (w5.drewN n) fun e w' => e = .returned (.tuple #[]) ∧
              IsRW w' N q F vL (.slice (some ⟨bT, oT, none⟩) F.T.length cT) (.slice av v.length cv) ⟨lw ++ [⟨m1, (s.next : Int), (k : Int), x.left⟩], s.steps + 1, s.next + 1⟩ ∧ Upd [q] (w5.drewN n) w') := Lib.hid (by
            rintro n y rfl
            have hwl : lw.length ≤ s.tasks.length := by rw [HLWE.out, without_erase]; exact (List.eraseIdx_sublist _ _).length_le
            exact ref_walk_put_calls N q F _ _ _ ⟨lw, s.steps + 1, s.next⟩ y (k : Int) x.left (w5.drewN n) (HRW5.out.upd (Upd.drewN [] w5 n) (by simp) (by simp) (N' := N) (fun j hj => .inl hj)) hqN (fun j hj => Nat.lt_of_lt_of_le (HNN.out j hj) hz5) HWF.out.1 HTOK.out.2.2.1 HND4.out.wl (by have := HNX.out; simp only; omega) (by have := HLEN.out; simp only; omega))
          have t2 : w5.cell? ⟨wr.heap.size, 2, none⟩ = some (.int .i64 (k : Int)) := by rw [cell_of_block HY5.out]; rfl
          have z4 : w5.cell? ⟨W3.heap.size, 4, none⟩ = some (.int .i64 x.left) := by rw [cell_of_block HZ5.out]; rfl
          go_wp2_with fail
          all_goals
            refine (HP1.out _ _ (by have := HM1.out; omega)).mono ?_
            rintro e w6 ⟨rfl, hrw6, hu6⟩
            have hw3q : W3.heap.size ≠ q := by have := HU03.out.size; omega
            have HY6 := Lib.hid (upd_far hu6 (upd_far (Upd.drewN [] w5 _) HY5.out (by simp)) (by simpa using hrn))
            have HZ6 := Lib.hid (upd_far hu6 (upd_far (Upd.drewN [] w5 _) HZ5.out (by simp)) (by simpa using hw3q))
            have HU6 : Hid (Upd [q] w w6) := Lib.hid ((((HU03.out.trans (HU4.out.mono (by simp))).trans (HU5.out.mono (by simp))).trans (Upd.drewN _ _ _)).trans hu6)
            have HP2 : Hid (∀ y, y = m2 → Calls Try.prog 40 #[.pointer (some ⟨q, 0, none⟩), .int .i64 y, .int .i64 (k : Int), .int .i64 x.right] w6 fun e w' => e = .returned (.tuple #[]) ∧
                IsRW w' N q F vL (.slice (some ⟨bT, oT, none⟩) F.T.length cT) (.slice av v.length cv) (stepS F.T v s) ∧ Upd [q] w6 w') := Lib.hid (by
              rintro y rfl
              have hwl : lw.length ≤ s.tasks.length := by rw [HLWE.out, without_erase]; exact (List.eraseIdx_sublist _ _).length_le
              refine (ref_walk_put_calls N q F _ _ _ ⟨lw ++ [⟨m1, (s.next : Int), (k : Int), x.left⟩], s.steps + 1, s.next + 1⟩ y (k : Int) x.right w6 hrw6 hqN (fun j hj => Nat.lt_of_lt_of_le (HNN.out j hj) HU6.out.size) HWF.out.2 HTOK.out.2.2.1 HND4.out.wr (by have := HNX.out; simp only; omega) (by have := HLEN.out; simp; omega)).mono ?_
              rintro e w7 ⟨r1, r2, r3⟩
              refine ⟨r1, r2.same ?_, r3⟩
              unfold stepS
              simp only [HB.out, HGT.out, HND.out, HLF.out, Bool.false_eq_true, if_false, HMGE.out, HM1.out, HM2.out, HLWE.out]
              simp)
            have r2 : w6.cell? ⟨wr.heap.size, 2, none⟩ = some (.int .i64 (k : Int)) := by rw [cell_of_block HY6.out]; rfl
            have r5 : w6.cell? ⟨W3.heap.size, 5, none⟩ = some (.int .i64 x.right) := by rw [cell_of_block HZ6.out]; rfl
            clear hrw6 hu6 t0 t2 z4 HP1
            go_wp2_with fail
            all_goals
              refine (HP2.out _ (by have := HM2.out; omega)).mono ?_
              rintro e w7 ⟨rfl, hrw7, hu7⟩
              have HRW7 := Lib.hid hrw7
              have HU7 := Lib.hid (HU6.out.trans hu7)
              clear hrw7 hu7 HP2 r2 r5
              go_wp2_with fail
              refine bodyPost_ret (results_tmp3 rfl _ _ _) rfl ?_
              refine ⟨HRW7.out, HU7.out, .inr ⟨?_, rfl⟩⟩
              unfold outS
              simp only [HB.out, HGT.out, HND.out, HLF.out, Bool.false_eq_true, if_false]

end Go.Proofs.Ytiplifkbegmeiaa
