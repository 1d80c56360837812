/-
The heap of topk's entries: sink. (Turned by gen_heap3.py out of the heap of tasks.)
-/
import Derived.Test.YtglghgjbnoldaaaHeapE
namespace Go.Proofs.Ytglghgjbnoldaaa.E3
set_option linter.unusedVariables false
set_option linter.unusedSimpArgs false
open Go.RowKit Go.Proofs.Ytglghgjbnoldaaa
variable {sb : Nat}

section
variable {α : Type} (f : α → α → Bool) (d : α)
/-- Of a place's children below m, and of itself: b is none of them behind. -/
structure Best (l : List α) (k b m : Nat) : Prop where
  or : b = k ∨ (0 < b ∧ b < l.length ∧ (b - 1) / 2 = k ∧ f (l.getD b d) (l.getD k d) = true)
  all : ∀ c, 0 < c → c < l.length → (c - 1) / 2 = k → c < m → f (l.getD c d) (l.getD b d) = false
theorem Best.start (l : List α) (k : Nat) : Best f d l k k (2 * k + 1) := ⟨.inl rfl, fun c h1 h2 h3 h4 => by omega⟩
theorem Best.stay {l : List α} {k b m : Nat} (h : Best f d l k b m) (hm : l.length ≤ m ∨ f (l.getD m d) (l.getD b d) = false) : Best f d l k b (m + 1) := by
  refine ⟨h.or, fun c h1 h2 h3 h4 => ?_⟩
  by_cases e : c = m
  · subst e
    rcases hm with hm | hm
    · omega
    · exact hm
  · exact h.all c h1 h2 h3 (by omega)
theorem Best.go (asym : ∀ a b, f a b = true → f b a = false) (negt : ∀ a b c, f b a = false → f c b = false → f c a = false) (irr : ∀ a, f a a = false) {l : List α} {k b m : Nat} (h : Best f d l k b m) (h0 : 0 < m) (hl : m < l.length) (hk : (m - 1) / 2 = k) (hm : f (l.getD m d) (l.getD b d) = true) : Best f d l k m (m + 1) := by
  refine ⟨.inr ⟨h0, hl, hk, ?_⟩, fun c h1 h2 h3 h4 => ?_⟩
  · rcases h.or with e | ⟨_, _, _, h4⟩
    · rw [← e]; exact hm
    · cases hq : f (l.getD m d) (l.getD k d) with
      | true => rfl
      | false =>
        have := negt _ _ _ (asym _ _ h4) hq
        rw [hm] at this; cases this
  · by_cases e : c = m
    · subst e; exact irr _
    · exact negt _ _ _ (asym _ _ hm) (h.all c h1 h2 h3 (by omega))
theorem Best.done {l : List α} {k : Nat} (h : Best f d l k k (2 * k + 3)) (hd : Down f d l k) : Good f d l :=
  hd.done f d (fun c h1 h2 h3 => h.all c h1 h2 h3 (by omega))
theorem Best.step (asym : ∀ a b, f a b = true → f b a = false) {l : List α} {k b : Nat} (h : Best f d l k b (2 * k + 3)) (hd : Down f d l k) (hne : b ≠ k) : (0 < b ∧ b < l.length ∧ k < b) ∧ Down f d (swp d l k b) b := by
  rcases h.or with e | ⟨h1, h2, h3, h4⟩
  · exact absurd e hne
  · exact ⟨⟨h1, h2, by omega⟩, hd.step f d asym h1 h2 h3 h4 (fun c k1 k2 k3 => h.all c k1 k2 k3 (by omega))⟩
end

set_option maxHeartbeats 4000000 in
set_option maxRecDepth 100000 in
theorem sink_calls (B h g c3 : Nat) (l : List Tk) (f : Tk → Tk → Bool) (asym : ∀ a b, f a b = true → f b a = false) (negt : ∀ a b c, f b a = false → f c b = false → f c a = false) (irr : ∀ a, f a a = false) (w : World) (H : IsHeap w B h (.func (.func 66) #[] #[.pointer (some ⟨sb, 0, none⟩)]) (.slice (some ⟨g, 0, none⟩) l.length c3) l) (hlen : l.length ≤ 1099511627776)
    (hf : FirstOk 66 #[.pointer (some ⟨sb, 0, none⟩)] f [h, g] w) (hg : Down f tk0 l 0) :
    Calls Try.prog 84 #[.pointer (some ⟨h, 0, none⟩)] w fun e w' => e = .returned (.tuple #[]) ∧
      ∃ l', IsHeap w' B h (.func (.func 66) #[] #[.pointer (some ⟨sb, 0, none⟩)]) (.slice (some ⟨g, 0, none⟩) l.length c3) l' ∧ l'.Perm l ∧ Good f tk0 l' ∧ Upd [h, g] w w' := by
  have HF := Lib.hid hf
  have HG := Lib.hid hg
  have HH := Lib.hid H
  have HAS := Lib.hid asym
  have HNG := Lib.hid negt
  have HIR := Lib.hid irr
  have hgh : h ≠ g := by have := H.ne; simp [ob, Value.ownBlock] at this; exact this
  have HGH := Lib.hid hgh
  obtain ⟨-, -, hBg⟩ := H.row.fblock
  obtain ⟨l1, hl1⟩ : ∃ l1, l1 = l := ⟨_, rfl⟩
  rw [← hl1] at HH ⊢
  have q2 : (l1.length : Int) ≤ 1099511627776 := by rw [hl1]; omega
  have HGG : Hid (Down f tk0 l1 0) := Lib.hid (by rw [hl1]; exact hg)
  clear hf hg H asym negt irr hgh hlen HG hl1
  go_enter Try.func84, Try.ntmps84
  go_wp2_with fail
  go_loopw [2] (fun i wr => ∃ (k : Nat) (l' : List Tk), i = .int .i64 k ∧ (k < l1.length ∨ k = 0) ∧ Hid (Down f tk0 l' k) ∧ Hid (l'.Perm l1) ∧ Hid (IsHeap wr B h (.func (.func 66) #[] #[.pointer (some ⟨sb, 0, none⟩)]) (.slice (some ⟨g, 0, none⟩) l1.length c3) l') ∧ Hid (Upd [h, g] w wr)) (fun i _ => l1.length - (intOf i).toNat)
  case atStart => exact ⟨0, l1, rfl, .inr rfl, HGG, Lib.hid (List.Perm.refl _), HH, Lib.hid (Upd.refl _ _)⟩
  case round =>
    obtain ⟨k, l', rfl, hkn, hdown, hperm, hheap, hupd⟩ := hrel
    have hlen' : l'.length = l1.length := hperm.out.length_eq
    have HLN := Lib.hid hlen'
    have kb : (k : Int) ≤ 1099511627776 := by omega
    have k0 : (0 : Int) ≤ (k : Int) := by omega
    obtain ⟨ca, hca⟩ : ∃ c : Nat, 2 * (k : Int) + 1 = (c : Int) := ⟨2 * k + 1, by omega⟩
    obtain ⟨cb, hcb⟩ : ∃ c : Nat, 2 * (k : Int) + 2 = (c : Int) := ⟨2 * k + 2, by omega⟩
    have HCA := Lib.hid (show ca = 2 * k + 1 by omega)
    have HCB := Lib.hid (show cb = 2 * k + 2 by omega)
    clear hlen'
    go_wp2_with fail
    clear hca hcb
    have c3' : (wr.heap[h]?) = some (.cells #[.func (.func 66) #[] #[.pointer (some ⟨sb, 0, none⟩)], .slice (some ⟨g, 0, none⟩) l1.length c3] 127) := hheap.out.hd
    have HHD := Lib.hid c3'
    have HFB := Lib.hid hheap.out.row.fblock.1
    clear c3'
    rename World => wo
    go_loopw [3, 14] (fun bv iv wr => ∃ (i b : Nat), iv = .int .i64 i ∧ i ≤ 2 ∧ bv = .int .i64 b ∧ b ≤ 1099511627776 ∧ Hid (Best f tk0 l' k b (2 * k + 1 + i)) ∧ Hid (Upd [] wo wr)) (fun _ iv _ => 2 - (intOf iv).toNat)
    case atStart => exact ⟨0, k, rfl, by omega, rfl, by omega, Lib.hid (Best.start f tk0 l' k), Lib.hid (Upd.refl _ _)⟩
    case round =>
      obtain ⟨i, b, rfl, hi2, rfl, hb2, hbest, hu⟩ := hrel
      by_cases hi : i < 2
      · obtain ⟨m, hm⟩ : ∃ m : Nat, m = 2 * k + 1 + i := ⟨_, rfl⟩
        have HM := Lib.hid hm
        have hidx : ∀ W, (Instr.index 132 (.agg #[.int .i64 (ca : Int), .int .i64 (cb : Int)]) (.int .i64 (i : Int))).run Try.prog W = .ok (.int .i64 (m : Int)) W := fun W => by
          have e : (i = 0 ∧ m = ca) ∨ (i = 1 ∧ m = cb) := by have := HCA.out; have := HCB.out; omega
          rcases e with ⟨rfl, rfl⟩ | ⟨rfl, rfl⟩ <;> simp [Instr.index, part, run_underlying Try.underlying132, asIntOf, Sem.run_bind, Result.andThen, Try.sizeOf3, Try.isAgg3]
        clear hm
        by_cases hml : m < l1.length
        · obtain ⟨xm, hxm⟩ : ∃ y, l'[m]? = some y := ⟨_, List.getElem?_eq_getElem (by rw [HLN.out]; exact hml)⟩
          have hbl : b < l'.length := by
            rcases hbest.out.or with e | e
            · have := HM.out; have := HLN.out; omega
            · exact e.2.1
          obtain ⟨xb, hxb⟩ : ∃ y, l'[b]? = some y := ⟨_, List.getElem?_eq_getElem hbl⟩
          have hfb := HFB.out.upd hu.out (by simp)
          have hhd := upd_far hu.out HHD.out (by simp)
          obtain ⟨okm, cm⟩ := hfb.cell hxm
          obtain ⟨okb, cu⟩ := hfb.cell hxb
          have e0 : wr.cell? ⟨h, 0, none⟩ = some (.func (.func 66) #[] #[.pointer (some ⟨sb, 0, none⟩)]) := by rw [cell_of_block hhd]; rfl
          have e1 : wr.cell? ⟨h, 1, none⟩ = some (.slice (some ⟨g, 0, none⟩) l1.length c3) := by rw [cell_of_block hhd]; rfl
          have ck0 : wr.cell? ⟨g, m * 3, none⟩ = some (.int .i64 xm.id) := cm 0 _ rfl
          have ck1 : wr.cell? ⟨g, m * 3 + 1, none⟩ = some (.int .i64 xm.far) := cm 1 _ rfl
          have ck2 : wr.cell? ⟨g, m * 3 + 2, none⟩ = some (.int .i64 xm.at_) := cm 2 _ rfl
          have cu0 : wr.cell? ⟨g, b * 3, none⟩ = some (.int .i64 xb.id) := cu 0 _ rfl
          have cu1 : wr.cell? ⟨g, b * 3 + 1, none⟩ = some (.int .i64 xb.far) := cu 1 _ rfl
          have cu2 : wr.cell? ⟨g, b * 3 + 2, none⟩ = some (.int .i64 xb.at_) := cu 2 _ rfl
          have HC : Hid (∀ W, Upd [] wr W → Calls Try.prog 66 #[.agg #[.int .i64 xm.id, .int .i64 xm.far, .int .i64 xm.at_], .agg #[.int .i64 xb.id, .int .i64 xb.far, .int .i64 xb.at_], .pointer (some ⟨sb, 0, none⟩)] W
              fun e w' => e = .returned (.bool (f xm xb)) ∧ Below W.heap.size W w') := Lib.hid (fun W hW => by
            have := HF.out W xm xb ((hupd.out.trans (hu.out.mono (by simp))).trans (hW.mono (by simp))) okm okb
            simpa [tkV] using this)
          have HXM := Lib.hid hxm
          have HXB := Lib.hid hxb
          have HBB := Lib.hid hbl
          have b1 : (b : Int) < (l1.length : Int) := by have := HLN.out; omega
          have b0 : (0 : Int) ≤ (b : Int) := by omega
          have m1 : (m : Int) < (l1.length : Int) := by omega
          have m0 : (0 : Int) ≤ (m : Int) := by omega
          have md : decide ((m : Int) < (l1.length : Int)) = true := by simpa using m1
          obtain ⟨bb, hbb⟩ : ∃ q, f xm xb = q := ⟨_, rfl⟩
          rw [hbb] at HC
          have HBF := Lib.hid hbb
          clear cm cu hxm hxb hfb hhd okm okb hbb hbl
          go_wp2_with fail
          go_region_held3 (fun w' => w'.cell? ⟨h, 0, none⟩ = some (.func (.func 66) #[] #[.pointer (some ⟨sb, 0, none⟩)]) ∧ w'.cell? ⟨h, 1, none⟩ = some (.slice (some ⟨g, 0, none⟩) l1.length c3) ∧ w'.cell? ⟨g, m * 3, none⟩ = some (.int .i64 xm.id) ∧ w'.cell? ⟨g, m * 3 + 1, none⟩ = some (.int .i64 xm.far) ∧ w'.cell? ⟨g, m * 3 + 2, none⟩ = some (.int .i64 xm.at_) ∧
              w'.cell? ⟨g, b * 3, none⟩ = some (.int .i64 xb.id) ∧ w'.cell? ⟨g, b * 3 + 1, none⟩ = some (.int .i64 xb.far) ∧ w'.cell? ⟨g, b * 3 + 2, none⟩ = some (.int .i64 xb.at_))
            (first | exact ⟨k0, k1, n0, n1, n2, v0, v1, v2⟩ | exact ⟨e0, e1, ck0, ck1, ck2, cu0, cu1, cu2⟩ | go_keep)
            (first
              | (go_at_call 66
                 refine (HC.out _ (Upd.drewN [] wr _)).mono ?_
                 rintro e w5 ⟨rfl, hb5⟩
                 have hu5 : Upd [] wo w5 := hu.out.trans ((Upd.drewN [] wr 1).trans (Upd.ofBelow hb5 []))
                 have hh5 := upd_far hu5 HHD.out (by simp)
                 have hf5 := HFB.out.upd hu5 (by simp)
                 have k0 : w5.cell? ⟨h, 0, none⟩ = some (.func (.func 66) #[] #[.pointer (some ⟨sb, 0, none⟩)]) := by rw [cell_of_block hh5]; rfl
                 have k1 : w5.cell? ⟨h, 1, none⟩ = some (.slice (some ⟨g, 0, none⟩) l1.length c3) := by rw [cell_of_block hh5]; rfl
                 have n0 : w5.cell? ⟨g, m * 3, none⟩ = some (.int .i64 xm.id) := (hf5.cell HXM.out).2 0 _ rfl
                 have n1 : w5.cell? ⟨g, m * 3 + 1, none⟩ = some (.int .i64 xm.far) := (hf5.cell HXM.out).2 1 _ rfl
                 have n2 : w5.cell? ⟨g, m * 3 + 2, none⟩ = some (.int .i64 xm.at_) := (hf5.cell HXM.out).2 2 _ rfl
                 have v0 : w5.cell? ⟨g, b * 3, none⟩ = some (.int .i64 xb.id) := (hf5.cell HXB.out).2 0 _ rfl
                 have v1 : w5.cell? ⟨g, b * 3 + 1, none⟩ = some (.int .i64 xb.far) := (hf5.cell HXB.out).2 1 _ rfl
                 have v2 : w5.cell? ⟨g, b * 3 + 2, none⟩ = some (.int .i64 xb.at_) := (hf5.cell HXB.out).2 2 _ rfl
                 have HU5 := Lib.hid hu5
                 clear hb5 hu5 hh5 hf5))
          clear k0 k1 n0 n1 n2 v0 v1 v2 e0 e1 ck0 ck1 ck2 cu0 cu1 cu2
          cases bb with
          | true =>
            go_wp2_with fail
            go_roundw
            case rel =>
              refine ⟨i + 1, m, by go_num, by omega, rfl, by omega, Lib.hid ?_, HU5⟩
              have := hbest.out.go f tk0 HAS.out HNG.out HIR.out (by omega) (by have := HM.out; have := HLN.out; omega) (by omega) (by
                rw [← HM.out]
                simpa [List.getD_eq_getElem?_getD, HXM.out, HXB.out] using HBF.out)
              rw [← HM.out] at this
              rw [show 2 * k + 1 + (i + 1) = m + 1 by have := HM.out; omega]
              exact this
            case measure => simp [intOf]; omega
          | false =>
            go_wp2_with fail
            go_roundw
            case rel =>
              refine ⟨i + 1, b, by go_num, by omega, rfl, by omega, Lib.hid (hbest.out.stay f tk0 (.inr ?_)), HU5⟩
              rw [← HM.out]
              simpa [List.getD_eq_getElem?_getD, HXM.out, HXB.out] using HBF.out
            case measure => simp [intOf]; omega
        · have hhd := upd_far hu.out HHD.out (by simp)
          have e1 : wr.cell? ⟨h, 1, none⟩ = some (.slice (some ⟨g, 0, none⟩) l1.length c3) := by rw [cell_of_block hhd]; rfl
          have md : decide ((m : Int) < (l1.length : Int)) = false := by simp; omega
          clear hhd
          go_wp2_with fail
          go_quiet (fail)
          go_wp2_with fail
          go_roundw
          case rel => exact ⟨i + 1, b, by go_num, by omega, rfl, by omega, Lib.hid (hbest.out.stay f tk0 (.inl (by have := HM.out; have := HLN.out; omega))), Lib.hid (hu.out.trans (Upd.drewN [] _ _))⟩
          case measure => simp [intOf]; omega
      · have hi2' : i = 2 := by omega
        have hbest' : Hid (Best f tk0 l' k b (2 * k + 3)) := Lib.hid (by have := hbest.out; rw [hi2'] at this; exact this)
        clear hbest
        subst hi2'
        by_cases hbk : b = k
        · subst hbk
          go_wp2_with fail
          refine bodyPost_ret (results_none rfl _ _ _) rfl ?_
          exact ⟨rfl, l', hheap.out.upd hu.out (by simp) (by simp), hperm.out, hbest'.out.done f tk0 hdown.out, hupd.out.trans (hu.out.mono (by simp))⟩
        · obtain ⟨hs1, hs2⟩ := hbest'.out.step f tk0 HAS.out hdown.out hbk
          have hk1 : k < l'.length := by omega
          obtain ⟨xk, hxk⟩ : ∃ y, l'[k]? = some y := ⟨_, List.getElem?_eq_getElem hk1⟩
          obtain ⟨xu, hxu⟩ : ∃ y, l'[b]? = some y := ⟨_, List.getElem?_eq_getElem hs1.2.1⟩
          have hf5 := HFB.out.upd hu.out (by simp)
          have hh5 := upd_far hu.out HHD.out (by simp)
          have HF5 := Lib.hid hf5
          have HH5 := Lib.hid hh5
          have SW : Hid (∀ W, FBlock tkE 108 W g c3 (swp tk0 l' k b) → Upd [g] wr W → IsHeap W B h (.func (.func 66) #[] #[.pointer (some ⟨sb, 0, none⟩)]) (.slice (some ⟨g, 0, none⟩) l1.length c3) (swp tk0 l' k b) ∧ Upd [h, g] w W) := Lib.hid (by
            have hsl : (swp tk0 l' k b).length = l1.length := by rw [swp_len]; exact HLN.out
            refine fun W hfb hu2 => ⟨⟨(hu2.block h (block_lt HH5.out) ?_).trans HH5.out, ?_, hheap.out.ne, hheap.out.le⟩, ?_⟩
            · have := HGH.out; simpa using this
            · rw [← hsl]; exact hfb.row [] hBg
            · exact (hupd.out.trans (hu.out.mono (by simp))).trans' hu2 (fun j hj => by simp at hj; subst hj; exact .inl (by simp)))
          have SB := Lib.hid (swap_fblock hf5 hxk hxu hbk)
          have SP := Lib.hid ((swp_perm tk0 l' k b hk1 hs1.2.1).trans hperm.out)
          have HS2 := Lib.hid hs2
          have e1 : wr.cell? ⟨h, 1, none⟩ = some (.slice (some ⟨g, 0, none⟩) l1.length c3) := by rw [cell_of_block hh5]; rfl
          obtain ⟨_, cm⟩ := hf5.cell hxk
          obtain ⟨_, cu⟩ := hf5.cell hxu
          have ck0 : wr.cell? ⟨g, k * 3, none⟩ = some (.int .i64 xk.id) := cm 0 _ rfl
          have ck1 : wr.cell? ⟨g, k * 3 + 1, none⟩ = some (.int .i64 xk.far) := cm 1 _ rfl
          have ck2 : wr.cell? ⟨g, k * 3 + 2, none⟩ = some (.int .i64 xk.at_) := cm 2 _ rfl
          have cu0 : wr.cell? ⟨g, b * 3, none⟩ = some (.int .i64 xu.id) := cu 0 _ rfl
          have cu1 : wr.cell? ⟨g, b * 3 + 1, none⟩ = some (.int .i64 xu.far) := cu 1 _ rfl
          have cu2 : wr.cell? ⟨g, b * 3 + 2, none⟩ = some (.int .i64 xu.at_) := cu 2 _ rfl
          have fz := fun o => hf5.frozen o
          have z0 := fz (k * 3)
          have z1 := fz (k * 3 + 1)
          have z2 := fz (k * 3 + 2)
          have y0 := fz (b * 3)
          have y1 := fz (b * 3 + 1)
          have y2 := fz (b * 3 + 2)
          have p0 : (0 : Int) ≤ (k : Int) := by omega
          have p1 : (k : Int) < (l1.length : Int) := by have := HLN.out; omega
          have p2 : (0 : Int) ≤ (b : Int) := by omega
          have p3 : (b : Int) < (l1.length : Int) := by have := HLN.out; omega
          have p4 : k < b := hs1.2.2
          have hne : ((b : Int) == (k : Int)) = false := by simp; omega
          clear fz cm cu hf5 hh5 hxk hxu hs1 hs2 hbk hk1
          go_wp2_with fail
          go_region
          go_wp2_with fail
          go_roundw
          case rel =>
            have hsw : Upd [g] wr _ := ((((((Upd.setCell (S := [g]) (w := wr) (p := ⟨g, k * 3, none⟩) (by simp) (.int .i64 xu.id)).trans (Upd.setCell (p := ⟨g, k * 3 + 1, none⟩) (by simp) (.int .i64 xu.far))).trans (Upd.setCell (p := ⟨g, k * 3 + 2, none⟩) (by simp) (.int .i64 xu.at_))).trans (Upd.setCell (p := ⟨g, b * 3, none⟩) (by simp) (.int .i64 xk.id))).trans (Upd.setCell (p := ⟨g, b * 3 + 1, none⟩) (by simp) (.int .i64 xk.far))).trans (Upd.setCell (p := ⟨g, b * 3 + 2, none⟩) (by simp) (.int .i64 xk.at_)))
            obtain ⟨s4, s5⟩ := SW.out _ (SB.out.upd (Upd.drew [] _) (by simp)) (hsw.trans (Upd.drew _ _))
            exact ⟨b, swp tk0 l' k b, rfl, .inl (by omega), HS2, SP, Lib.hid s4, Lib.hid s5⟩
          case measure => simp [intOf]; omega

end Go.Proofs.Ytglghgjbnoldaaa.E3
