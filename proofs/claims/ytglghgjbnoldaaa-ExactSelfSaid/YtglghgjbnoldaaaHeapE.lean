/-
The heap of topk's entries: Push. (Turned by gen_heap3.py out of the heap of tasks.)
-/
import Derived.Test.YtglghgjbnoldaaaHeapM
import Derived.Test.YtglghgjbnoldaaaAhead
import Derived.BigRegion
import Derived.BigQuiet
import Derived.Deep.QuietTactic
import Derived.Deep.RegionHeld3
import Derived.Deep.RegionLaw
namespace Go.Proofs.Ytglghgjbnoldaaa.E3
set_option linter.unusedVariables false
set_option linter.unusedSimpArgs false
open Go.RowKit Go.Proofs.Ytglghgjbnoldaaa
variable {sb : Nat}

/-- An entry: whose id, how far, when it was offered. -/
structure Tk where
  id : Int
  far : Int
  at_ : Int
  deriving DecidableEq
def tkE : Flat Tk where
  n := 3
  enc x := [.int .i64 x.id, .int .i64 x.far, .int .i64 x.at_]
  ok x := (Lit.int .i64 x.id).wf = true ∧ (Lit.int .i64 x.far).wf = true ∧ (Lit.int .i64 x.at_).wf = true
  len _ := rfl
  one x v h := by simp at h; rcases h with rfl | rfl | rfl <;> rfl
def tkV (x : Tk) : Value := .agg #[.int .i64 x.id, .int .i64 x.far, .int .i64 x.at_]

/-- What the heap asks of its order: in whatever world it comes to. -/
def FirstOk (F : FuncId) (lb : Array Value) (f : Tk → Tk → Bool) (M : List Nat) (w : World) : Prop :=
  ∀ (W : World) (a b : Tk), Upd M w W → tkE.ok a → tkE.ok b → Calls Try.prog F (#[tkV a, tkV b] ++ lb) W fun e w' => e = .returned (.bool (f a b)) ∧ Below W.heap.size W w'

/-- A heap: its order, and what it holds, of which it alone knows. -/
structure IsHeap (w : World) (B h : Nat) (fv v : Value) (l : List Tk) : Prop where
  hd : w.heap[h]? = some (.cells #[fv, v] 127)
  row : Row tkE.kd [] 108 B w v l
  ne : h ∉ ob v
  le : B ≤ h

theorem IsHeap.upd {w w' : World} {B h : Nat} {fv v : Value} {l : List Tk} (H : IsHeap w B h fv v l) {S : List Nat} (hu : Upd S w w') (h1 : h ∉ S) (h2 : ∀ k, k ∈ ob v → k ∉ S) : IsHeap w' B h fv v l :=
  ⟨(hu.block _ (block_lt H.hd) h1).trans H.hd, ((H.row.flat_any (M' := S)).upd hu (fun k hk => hk) h2 (M' := S) (fun k hk => .inl hk)).flat_any, H.ne, H.le⟩

theorem heap_setv {w : World} {B h : Nat} {fv v0 v : Value} {l : List Tk} (hd : w.heap[h]? = some (.cells #[fv, v0] 127)) (row : Row tkE.kd [] 108 B w v l) (ne : h ∉ ob v) (le : B ≤ h) : IsHeap (w.setCell ⟨h, 1, none⟩ v) B h fv v l :=
  ⟨(heap_setCell_same w h 1 _ _ _ hd).trans (by simp), ((row.flat_any (M' := [h])).upd (Upd.setCell (S := [h]) (p := ⟨h, 1, none⟩) (by simp) _) (by simp) (fun k hk hm => by simp at hm; subst hm; exact ne hk) (M' := [h]) (fun k hk => .inl hk)).flat_any, ne, le⟩

def tk0 : Tk := ⟨0, 0, 0⟩

theorem swp_get {α : Type} (d : α) {l : List α} {k u : Nat} {xk xu : α} (hk : l[k]? = some xk) (hu : l[u]? = some xu) (i : Nat) : (swp d l k u)[i]? = if i = u then some xk else if i = k then some xu else l[i]? := by
  have h1 := (List.getElem?_eq_some_iff.1 hk).1
  have h2 := (List.getElem?_eq_some_iff.1 hu).1
  have e1 : l.getD k d = xk := by simp [List.getD_eq_getElem?_getD, hk]
  have e2 : l.getD u d = xu := by simp [List.getD_eq_getElem?_getD, hu]
  unfold swp
  rw [e1, e2]
  by_cases h : i = u
  · subst h; rw [if_pos rfl, List.getElem?_set_self (by simpa using h2)]
  · rw [if_neg h, List.getElem?_set_ne (fun e => h e.symm)]
    by_cases h' : i = k
    · subst h'; rw [if_pos rfl, List.getElem?_set_self h1]
    · rw [if_neg h', List.getElem?_set_ne (fun e => h' e.symm)]

theorem swap_fblock {e : TypeId} {w : World} {g cap k u : Nat} {l : List Tk} (h : FBlock tkE e w g cap l) {xk xu : Tk} (hk : l[k]? = some xk) (hu : l[u]? = some xu) (hne : u ≠ k) :
    FBlock tkE e ((((((w.setCell ⟨g, k * 3, none⟩ (.int .i64 xu.id)).setCell ⟨g, k * 3 + 1, none⟩ (.int .i64 xu.far)).setCell ⟨g, k * 3 + 2, none⟩ (.int .i64 xu.at_)).setCell
      ⟨g, u * 3, none⟩ (.int .i64 xk.id)).setCell ⟨g, u * 3 + 1, none⟩ (.int .i64 xk.far)).setCell ⟨g, u * 3 + 2, none⟩ (.int .i64 xk.at_)) g cap (swp tk0 l k u) := by
  obtain ⟨okk, _⟩ := h.cell hk
  obtain ⟨oku, _⟩ := h.cell hu
  have hok : ∀ (i : Nat) x, l[i]? = some x → tkE.ok x := fun i x hx => (h.cell hx).1
  have hcap : l.length ≤ cap := by obtain ⟨_, _, _, h3, _⟩ := h.out; exact h3
  refine h.store (by rw [swp_len]; exact Nat.le_refl _) (fun cur hc hz hcell => ?_)
  have h0 := heap_setCell_same w g (k * 3) _ _ (.int .i64 xu.id) hc
  have h1 := heap_setCell_same _ g (k * 3 + 1) _ _ (.int .i64 xu.far) h0
  have h2 := heap_setCell_same _ g (k * 3 + 2) _ _ (.int .i64 xu.at_) h1
  have h4 := heap_setCell_same _ g (u * 3) _ _ (.int .i64 xk.id) h2
  have h5 := heap_setCell_same _ g (u * 3 + 1) _ _ (.int .i64 xk.far) h4
  have h6 := heap_setCell_same _ g (u * 3 + 2) _ _ (.int .i64 xk.at_) h5
  refine ⟨_, h6, by simp, fun i y hy => ?_⟩
  have hkl := (List.getElem?_eq_some_iff.1 hk).1
  have hul := (List.getElem?_eq_some_iff.1 hu).1
  have hz : cur.size = cap * 3 := hz
  rw [swp_get tk0 hk hu] at hy
  have fin : ∀ {y' : Tk} {j : Nat} {v' : Value}, (tkE.enc y')[j]? = some v' → (j = 0 ∧ v' = .int .i64 y'.id) ∨ (j = 1 ∧ v' = .int .i64 y'.far) ∨ (j = 2 ∧ v' = .int .i64 y'.at_) := by
    intro y' j v' hj
    match j, hj with
    | 0, hj => exact .inl ⟨rfl, by simpa [tkE] using hj.symm⟩
    | 1, hj => exact .inr (.inl ⟨rfl, by simpa [tkE] using hj.symm⟩)
    | 2, hj => exact .inr (.inr ⟨rfl, by simpa [tkE] using hj.symm⟩)
    | j + 3, hj => simp [tkE] at hj
  have hn4 : ∀ i : Nat, i * tkE.n = i * 3 := fun i => rfl
  by_cases hiu : i = u
  · subst hiu
    rw [if_pos rfl] at hy
    cases hy
    refine ⟨okk, fun j v' hj => ?_⟩
    rw [hn4]
    simp only [Array.getElem?_setIfInBounds, Array.size_setIfInBounds]
    rcases fin hj with ⟨rfl, rfl⟩ | ⟨rfl, rfl⟩ | ⟨rfl, rfl⟩ <;> (repeat (first | rw [if_neg (by omega)] | rw [if_pos (by omega)]))
  · rw [if_neg hiu] at hy
    by_cases hik : i = k
    · subst hik
      rw [if_pos rfl] at hy
      cases hy
      refine ⟨oku, fun j v' hj => ?_⟩
      rw [hn4]
      simp only [Array.getElem?_setIfInBounds, Array.size_setIfInBounds]
      rcases fin hj with ⟨rfl, rfl⟩ | ⟨rfl, rfl⟩ | ⟨rfl, rfl⟩ <;> (repeat (first | rw [if_neg (by omega)] | rw [if_pos (by omega)]))
    · rw [if_neg hik] at hy
      refine ⟨hok i y hy, fun j v' hj => ?_⟩
      have := hcell i y hy j v' hj
      rw [hn4] at this ⊢
      simp only [Array.getElem?_setIfInBounds, Array.size_setIfInBounds]
      rcases fin hj with ⟨rfl, rfl⟩ | ⟨rfl, rfl⟩ | ⟨rfl, rfl⟩ <;> (repeat (first | rw [if_neg (by omega)])) <;> exact this

theorem A.infoTask : (Try.prog.info? 108).map (fun i => (i.zero, i.size, i.bytes)) = some (some (.agg #[.int .i64 0, .int .i64 0, .int .i64 0]), 3, 24) := by kernel_rfl

/-- A literal row of one thing. -/
theorem flat_one {α : Type} {E : Flat α} {N : List Nat} {w : World} {b : Nat} {x : α} {t : TypeId} {fr : Nat × Nat} (h : w.heap[b]? = some (.cells (E.enc x).toArray t fr)) (hn : b ∉ N) (hx : E.ok x) : E.kd.slice.At N w [.slice (some ⟨b, 0, none⟩) 1 1] [x] :=
  ⟨⟨some ⟨b, 0, none⟩, 1, rfl, Nat.le_refl _, by simp [maxLen], fun i y hy => by
    cases i with
    | zero =>
      simp at hy; subst hy
      refine ⟨b, 0, rfl, ⟨block_lt h, hn⟩, block_lt h, E.enc x, ⟨rfl, hx⟩, fun j v hv => ?_⟩
      simp only [World.cell?, h, Nat.zero_mul, Nat.zero_add]
      simpa using hv
    | succ i => simp at hy⟩⟩

set_option maxHeartbeats 2000000 in
set_option maxRecDepth 100000 in
theorem push_calls (F : FuncId) (B h : Nat) (v : Value) (l : List Tk) (x : Tk) (f : Tk → Tk → Bool) (asym : ∀ a b, f a b = true → f b a = false) (negt : ∀ a b c, f b a = false → f c b = false → f c a = false) (w : World) (H : IsHeap w B h (.func (.func 66) #[] #[.pointer (some ⟨sb, 0, none⟩)]) v l) (hx : tkE.ok x) (hlen : l.length ≤ 1099511627776)
    (hf : FirstOk 66 #[.pointer (some ⟨sb, 0, none⟩)] f (h :: ob v) w) (hg : Good f tk0 l) (hB : B ≤ w.heap.size) :
    Calls Try.prog 69 #[.pointer (some ⟨h, 0, none⟩), .agg #[.int .i64 x.id, .int .i64 x.far, .int .i64 x.at_]] w fun e w' => e = .returned (.tuple #[]) ∧
      ∃ v' l', IsHeap w' B h (.func (.func 66) #[] #[.pointer (some ⟨sb, 0, none⟩)]) v' l' ∧ l'.Perm (l ++ [x]) ∧ Good f tk0 l' ∧ Upd (h :: ob v) w w' ∧ (∀ k, k ∈ ob v' → k ∈ ob v ∨ w.heap.size ≤ k) := by
  obtain ⟨W0, hW0⟩ : ∃ W0, w.alloc (.cells #[.int .i64 x.id, .int .i64 x.far, .int .i64 x.at_] 108) = W0 := ⟨_, rfl⟩
  have hu0 : Upd [] w W0 := by rw [← hW0]; exact Upd.alloc [] w _
  have hx0 : W0.heap[w.heap.size]? = some (.cells #[.int .i64 x.id, .int .i64 x.far, .int .i64 x.at_] 108) := by rw [← hW0]; exact Go.heap_alloc_new w _
  have H0 := Lib.hid (H.upd hu0 (by simp) (by simp))
  have HX0 := Lib.hid hx0
  have hlth := block_lt H.hd
  obtain ⟨a0, a1, a2⟩ : W0.cell? ⟨w.heap.size, 0, none⟩ = some (.int .i64 x.id) ∧ W0.cell? ⟨w.heap.size, 1, none⟩ = some (.int .i64 x.far) ∧ W0.cell? ⟨w.heap.size, 2, none⟩ = some (.int .i64 x.at_) := by
    refine ⟨?_, ?_, ?_⟩ <;> (rw [cell_of_block hx0]; rfl)
  have c0 : W0.cell? ⟨h, 0, none⟩ = some (.func (.func 66) #[] #[.pointer (some ⟨sb, 0, none⟩)]) := by rw [cell_of_block H0.out.hd]; rfl
  have c1 : W0.cell? ⟨h, 1, none⟩ = some v := by rw [cell_of_block H0.out.hd]; rfl
  have f1 : W0.frozen? ⟨h, 1, none⟩ = false := frozen_of_block H0.out.hd
  have HF := Lib.hid hf
  have HG := Lib.hid hg
  have HX := Lib.hid hx
  have HU0 := Lib.hid hu0
  have HH := Lib.hid H
  have HAS := Lib.hid asym
  have HNG := Lib.hid negt
  obtain ⟨i0, hi, hz0, hz1, hz2⟩ := info_parts A.infoTask
  have HI := Lib.hid hi
  have HZ0 := Lib.hid hz0
  have HZ1 := Lib.hid hz1
  have HZ2 := Lib.hid hz2
  have hobl := H0.out.row.ob_lt
  have HBW : B ≤ W0.heap.size := by have := hu0.size; omega
  obtain ⟨l1, hl1⟩ : ∃ l1, l ++ [x] = l1 := ⟨_, rfl⟩
  have HL1 := Lib.hid hl1
  have hn1 : l1.length = l.length + 1 := by rw [← hl1]; simp
  have HN1 := Lib.hid hn1
  have q1 : (1 : Int) ≤ (l1.length : Int) := by omega
  have q2 : (l1.length : Int) ≤ 1099511627777 := by omega
  clear hl1 hn1
  have c1' : (W0.alloc (.cells #[.int .i64 x.id, .int .i64 x.far, .int .i64 x.at_] 108)).cell? ⟨h, 1, none⟩ = some v := by
    rw [cell_of_block ((H0.out.upd (Upd.alloc [] W0 _) (by simp) (by simp)).hd)]; rfl
  clear hx0 hf hg hx hu0 H hi hz0 hz1 hz2 asym negt
  go_enter Try.func69, Try.ntmps69
  go_wp2_with fail
  go_region_law (first
    | (refine step_row_append rfl (.tmp 10) (.tmp 12) _ rfl (K := tkE.kd) (M := []) (B := B) (v := v) (u := .slice (some ⟨W0.heap.size, 0, none⟩) 1 1) (l := l) (l2 := [x]) rfl rfl ?_ Try.underlying113 HI.out HZ0.out HZ1.out HZ2.out rfl (by decide) ?_ ?_ ?_ ?_ ?_
       · exact (H0.out.upd (S := []) (by first | exact Upd.alloc [] W0 _ | exact (Upd.alloc [] W0 _).trans (Upd.drew [] _)) (by simp) (by simp)).row
       · exact flat_one (E := tkE) (x := x) (Go.heap_alloc_new W0 _) (fun hm => by
           rw [List.append_nil] at hm
           have := (hobl _ hm).2
           omega) HX.out
       · (simp [maxLen]; omega)
       · (simp; omega)
       · (simp; omega)
       intro v3 w3 hr3 hu3 ho3
       rw [HL1.out] at hr3
       obtain ⟨a3, c3, rfl, hl3, hc3⟩ := row_form hr3
       have hu3' : Upd (ob v) W0 w3 := Upd.trans' (by first | exact Upd.alloc _ W0 _ | exact (Upd.alloc _ W0 _).trans (Upd.drew _ _)) hu3 (fun k hk => .inl hk)
       have hd3 := (hu3'.block h (block_lt H0.out.hd) H0.out.ne).trans H0.out.hd
       have g1 : w3.cell? ⟨h, 1, none⟩ = some v := by rw [cell_of_block hd3]; rfl
       have k1 : w3.frozen? ⟨h, 1, none⟩ = false := frozen_of_block hd3))
  all_goals
    obtain ⟨g, rfl⟩ : ∃ g, a3 = some ⟨g, 0, none⟩ := by
      rcases hr3.form with ⟨_, e2⟩ | ⟨g, cap, e1, _⟩
      · have := HN1.out; rw [e2] at this; simp at this
      · simp at e1; exact ⟨g, e1.1⟩
    have HU3 := Lib.hid hu3'
    have HR3 := Lib.hid hr3
    have HD3 := Lib.hid hd3
    have HO3 := Lib.hid ho3
    clear hu3 hu3' hr3 hd3 ho3 a0 a1 a2 c0 c1 f1 c1' hobl
    have HNE3 : h ∉ ob (Value.slice (some ⟨g, 0, none⟩) l1.length c3) := by
      rcases HO3.out with e | e
      · rw [e]; exact H0.out.ne
      · rw [e]; have := block_lt H0.out.hd; simp; omega
    have START : Hid (IsHeap (w3.setCell ⟨h, 1, none⟩ (.slice (some ⟨g, 0, none⟩) l1.length c3)) B h (.func (.func 66) #[] #[.pointer (some ⟨sb, 0, none⟩)]) (.slice (some ⟨g, 0, none⟩) l1.length c3) l1 ∧ Upd (h :: ob v) w (w3.setCell ⟨h, 1, none⟩ (.slice (some ⟨g, 0, none⟩) l1.length c3))) :=
      Lib.hid ⟨heap_setv HD3.out HR3.out HNE3 HH.out.le, ((HU0.out.mono (by simp)).trans (HU3.out.mono (fun k hk _ => by simp [hk]))).trans (Upd.setCell (by simp) _)⟩
    have HNW : Hid (∀ k, k ∈ ob (Value.slice (some ⟨g, 0, none⟩) l1.length c3) → k ∈ ob v ∨ w.heap.size ≤ k) := Lib.hid (fun k hk => by
      rcases HO3.out with e | e
      · rw [e] at hk; exact .inl hk
      · rw [e] at hk; have := HU0.out.size; simp at hk; omega)
    clear HNE3 HO3
    go_wp2_with fail
    go_loopw [4] (fun i wr => ∃ (k : Nat) (l' : List Tk), i = .int .i64 k ∧ Hid (Up f tk0 l' k) ∧ Hid (l'.Perm l1) ∧ Hid (IsHeap wr B h (.func (.func 66) #[] #[.pointer (some ⟨sb, 0, none⟩)]) (.slice (some ⟨g, 0, none⟩) l1.length c3) l') ∧ Hid (Upd (h :: ob v) w wr)) (fun i _ => (intOf i).toNat)
    case atStart =>
      refine ⟨l1.length - 1, l1, by congr 1; omega, ?_, Lib.hid (List.Perm.refl _), Lib.hid START.out.1, Lib.hid START.out.2⟩
      have hs := Up.start f tk0 HG.out x
      rw [HL1.out] at hs
      have e : l1.length - 1 = l.length := by have := HN1.out; omega
      rw [e]
      exact hs
    case round =>
      obtain ⟨k, l', rfl, hup, hperm, hheap, hupd⟩ := hrel
      have hlen' : l'.length = l1.length := hperm.out.length_eq
      have hkl := hup.out.lt
      obtain ⟨hfb, -, hBg⟩ := hheap.out.row.fblock
      have hhd := hheap.out.hd
      have e0 : wr.cell? ⟨h, 0, none⟩ = some (.func (.func 66) #[] #[.pointer (some ⟨sb, 0, none⟩)]) := by rw [cell_of_block hhd]; rfl
      have e1 : wr.cell? ⟨h, 1, none⟩ = some (.slice (some ⟨g, 0, none⟩) l1.length c3) := by rw [cell_of_block hhd]; rfl
      have p0 : (0 : Int) ≤ (k : Int) := by omega
      have p1 : (k : Int) < (l1.length : Int) := by omega
      by_cases hk0 : 0 < k
      · obtain ⟨u, hu⟩ : ∃ u : Nat, ((k : Int) - 1) / 2 = (u : Int) := ⟨(k - 1) / 2, by omega⟩
        have hun : u = (k - 1) / 2 := by omega
        obtain ⟨xk, hxk⟩ : ∃ y, l'[k]? = some y := ⟨_, List.getElem?_eq_getElem hkl⟩
        obtain ⟨xu, hxu⟩ : ∃ y, l'[u]? = some y := ⟨_, List.getElem?_eq_getElem (show u < l'.length by omega)⟩
        obtain ⟨okk, ck⟩ := hfb.cell hxk
        obtain ⟨oku, cu⟩ := hfb.cell hxu
        have ck0 : wr.cell? ⟨g, k * 3, none⟩ = some (.int .i64 xk.id) := ck 0 _ rfl
        have ck1 : wr.cell? ⟨g, k * 3 + 1, none⟩ = some (.int .i64 xk.far) := ck 1 _ rfl
        have ck2 : wr.cell? ⟨g, k * 3 + 2, none⟩ = some (.int .i64 xk.at_) := ck 2 _ rfl
        have cu0 : wr.cell? ⟨g, u * 3, none⟩ = some (.int .i64 xu.id) := cu 0 _ rfl
        have cu1 : wr.cell? ⟨g, u * 3 + 1, none⟩ = some (.int .i64 xu.far) := cu 1 _ rfl
        have cu2 : wr.cell? ⟨g, u * 3 + 2, none⟩ = some (.int .i64 xu.at_) := cu 2 _ rfl
        have HC : Hid (∀ W, Upd [] wr W → Calls Try.prog 66 #[.agg #[.int .i64 xk.id, .int .i64 xk.far, .int .i64 xk.at_], .agg #[.int .i64 xu.id, .int .i64 xu.far, .int .i64 xu.at_], .pointer (some ⟨sb, 0, none⟩)] W
            fun e w' => e = .returned (.bool (f xk xu)) ∧ Below W.heap.size W w') := Lib.hid (fun W hW => by
          have := HF.out W xk xu (hupd.out.trans (hW.mono (by simp))) okk oku
          simpa [tkV] using this)
        have HXK := Lib.hid hxk
        have HXU := Lib.hid hxu
        have HUN := Lib.hid hun
        have HFB := Lib.hid hfb
        have HHD := Lib.hid hhd
        have HLN := Lib.hid hlen'
        obtain ⟨b, hb⟩ : ∃ b, f xk xu = b := ⟨_, rfl⟩
        rw [hb] at HC
        have HBF := Lib.hid hb
        have p2 : (0 : Int) ≤ (u : Int) := by omega
        have p3 : (u : Int) < (k : Int) := by omega
        have p4 : (1 : Int) ≤ (k : Int) := by omega
        have p5 : (u : Int) < (l1.length : Int) := by omega
        clear ck cu hxk hxu hun hlen' hb hfb hhd okk oku
        go_wp2_with fail
        rw [hu]
        clear hu
        go_region_held3 (fun w' => w'.cell? ⟨h, 0, none⟩ = some (.func (.func 66) #[] #[.pointer (some ⟨sb, 0, none⟩)]) ∧ w'.cell? ⟨h, 1, none⟩ = some (.slice (some ⟨g, 0, none⟩) l1.length c3) ∧ w'.cell? ⟨g, k * 3, none⟩ = some (.int .i64 xk.id) ∧ w'.cell? ⟨g, k * 3 + 1, none⟩ = some (.int .i64 xk.far) ∧ w'.cell? ⟨g, k * 3 + 2, none⟩ = some (.int .i64 xk.at_) ∧
            w'.cell? ⟨g, u * 3, none⟩ = some (.int .i64 xu.id) ∧ w'.cell? ⟨g, u * 3 + 1, none⟩ = some (.int .i64 xu.far) ∧ w'.cell? ⟨g, u * 3 + 2, none⟩ = some (.int .i64 xu.at_))
          (first | exact ⟨k0, k1, m0, m1, m2, n0, n1, n2⟩ | exact ⟨e0, e1, ck0, ck1, ck2, cu0, cu1, cu2⟩ | go_keep)
          (first
            | (go_at_call 66
               refine (HC.out _ (Upd.drewN [] wr _)).mono ?_
               rintro e w5 ⟨rfl, hb5⟩
               have hu5 : Upd [] wr w5 := (Upd.drewN [] wr 1).trans (Upd.ofBelow hb5 [])
               have hh5 := upd_far hu5 HHD.out (by simp)
               have hf5 := HFB.out.upd hu5 (by simp)
               have k0 : w5.cell? ⟨h, 0, none⟩ = some (.func (.func 66) #[] #[.pointer (some ⟨sb, 0, none⟩)]) := by rw [cell_of_block hh5]; rfl
               have k1 : w5.cell? ⟨h, 1, none⟩ = some (.slice (some ⟨g, 0, none⟩) l1.length c3) := by rw [cell_of_block hh5]; rfl
               have m0 : w5.cell? ⟨g, k * 3, none⟩ = some (.int .i64 xk.id) := (hf5.cell HXK.out).2 0 _ rfl
               have m1 : w5.cell? ⟨g, k * 3 + 1, none⟩ = some (.int .i64 xk.far) := (hf5.cell HXK.out).2 1 _ rfl
               have m2 : w5.cell? ⟨g, k * 3 + 2, none⟩ = some (.int .i64 xk.at_) := (hf5.cell HXK.out).2 2 _ rfl
               have n0 : w5.cell? ⟨g, u * 3, none⟩ = some (.int .i64 xu.id) := (hf5.cell HXU.out).2 0 _ rfl
               have n1 : w5.cell? ⟨g, u * 3 + 1, none⟩ = some (.int .i64 xu.far) := (hf5.cell HXU.out).2 1 _ rfl
               have n2 : w5.cell? ⟨g, u * 3 + 2, none⟩ = some (.int .i64 xu.at_) := (hf5.cell HXU.out).2 2 _ rfl
               have HU5 := Lib.hid hu5
               have HH5 := Lib.hid hh5
               have HF5 := Lib.hid hf5
               clear hb5 hu5 hh5 hf5))
        cases b with
        | false =>
          go_wp2_with fail
          go_end0
          refine ⟨rfl, _, l', hheap.out.upd HU5.out (by simp) (by simp), by rw [HL1.out]; exact hperm.out, hup.out.done f tk0 (.inr ?_), hupd.out.trans (HU5.out.mono (by simp)), HNW.out⟩
          rw [← HUN.out]
          simpa [List.getD_eq_getElem?_getD, HXK.out, HXU.out] using HBF.out
        | true =>
          have fz := fun o => HF5.out.frozen o
          have z0 := fz (k * 3)
          have z1 := fz (k * 3 + 1)
          have z2 := fz (k * 3 + 2)
          have y0 := fz (u * 3)
          have y1 := fz (u * 3 + 1)
          have y2 := fz (u * 3 + 2)
          clear fz
          have SW : Hid (Up f tk0 (swp tk0 l' k u) u ∧ (swp tk0 l' k u).Perm l1 ∧ ∀ W, FBlock tkE 108 W g c3 (swp tk0 l' k u) → Upd [g] w5 W → IsHeap W B h (.func (.func 66) #[] #[.pointer (some ⟨sb, 0, none⟩)]) (.slice (some ⟨g, 0, none⟩) l1.length c3) (swp tk0 l' k u) ∧ Upd (h :: ob v) w W) := Lib.hid (by
            have hul : u < l'.length := by rw [HLN.out]; omega
            have hsl : (swp tk0 l' k u).length = l1.length := by rw [swp_len]; exact HLN.out
            refine ⟨?_, (swp_perm tk0 l' k u hkl hul).trans hperm.out, fun W hfb hu => ⟨⟨(hu.block h (block_lt HH5.out) ?_).trans HH5.out, ?_, hheap.out.ne, hheap.out.le⟩, ?_⟩⟩
            · have := hup.out.step f tk0 HAS.out HNG.out hk0 (by
                rw [← HUN.out]
                simpa [List.getD_eq_getElem?_getD, HXK.out, HXU.out] using HBF.out)
              rw [← HUN.out] at this
              exact this
            · have := hheap.out.ne; simp [ob, Value.ownBlock] at this; simpa using this
            · rw [← hsl]; exact hfb.row [] hBg
            · refine (hupd.out.trans (HU5.out.mono (by simp))).trans' hu (fun j hj => ?_)
              simp at hj
              subst hj
              rcases HNW.out j (by simp [ob, Value.ownBlock]) with h | h
              · exact .inl (by simp [h])
              · exact .inr h)
          have SB := Lib.hid (swap_fblock HF5.out HXK.out HXU.out (by omega))
          go_wp2_with fail
          go_region
          go_wp2_with fail
          go_roundw
          case rel =>
            obtain ⟨s1, s2, s3⟩ := SW.out
            have hsw : Upd [g] w5 _ := ((((((Upd.setCell (S := [g]) (w := w5) (p := ⟨g, k * 3, none⟩) (by simp) (.int .i64 xu.id)).trans (Upd.setCell (p := ⟨g, k * 3 + 1, none⟩) (by simp) (.int .i64 xu.far))).trans (Upd.setCell (p := ⟨g, k * 3 + 2, none⟩) (by simp) (.int .i64 xu.at_))).trans (Upd.setCell (p := ⟨g, u * 3, none⟩) (by simp) (.int .i64 xk.id))).trans (Upd.setCell (p := ⟨g, u * 3 + 1, none⟩) (by simp) (.int .i64 xk.far))).trans (Upd.setCell (p := ⟨g, u * 3 + 2, none⟩) (by simp) (.int .i64 xk.at_)))
            obtain ⟨s4, s5⟩ := s3 _ (SB.out.upd (Upd.drew [] _) (by simp)) (hsw.trans (Upd.drew _ _))
            exact ⟨u, swp tk0 l' k u, rfl, Lib.hid s1, Lib.hid s2, Lib.hid s4, Lib.hid s5⟩
          case measure => simp [intOf]; omega
      · have hk00 : k = 0 := by omega
        have HK0 := Lib.hid hk00
        clear hk00
        go_wp2_with fail
        go_end0
        exact ⟨rfl, _, l', hheap.out, by rw [HL1.out]; exact hperm.out, hup.out.done f tk0 (.inl HK0.out), hupd.out, HNW.out⟩

end Go.Proofs.Ytglghgjbnoldaaa.E3
