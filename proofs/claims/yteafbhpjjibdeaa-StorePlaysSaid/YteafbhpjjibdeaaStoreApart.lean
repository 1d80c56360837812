/-
The store's law on other files: walks of few and StoreApart.
-/
import Derived.Test.YteafbhpjjibdeaaStoreLaws
import Derived.Test.YteafbhpjjibdeaaKd
namespace Go.Proofs.Yteafbhpjjibdeaa
set_option linter.unusedVariables false
set_option linter.unusedSimpArgs false
open Go.RowKit

structure Act23 where
  kind : Int
  name : ByteArray
  text : ByteArray
  at_ : Int
  by_ : Int

def kAct23 : Kd Act23 where
  sz := 5
  rep _ _ cs x := cs = [.int .i64 x.kind, .string x.name, .string x.text, .int .i64 x.at_, .int .u8 x.by_] ∧ (Lit.int .i64 x.kind).wf = true ∧ x.name.size ≤ maxLen ∧ x.text.size ≤ maxLen ∧ (Lit.int .i64 x.at_).wf = true ∧ (Lit.int .u8 x.by_).wf = true
  len h := by rw [h.1]; rfl
  one h := by rw [h.1]; simp [Value.oneCell']
  mono h _ _ := h

theorem opens_act23 : kAct23.Opens Try.prog 51 := by
  have oi := opens_int (P := Try.prog) Try.underlying3 (by kernel_rfl)
  have os := opens_str (P := Try.prog) Try.underlying9 (by kernel_rfl)
  have ob := opens_int (P := Try.prog) Try.underlying5 (by kernel_rfl)
  have hc : Try.prog.cellsOf 51 = 5 := by kernel_rfl
  refine ⟨hc, fun {H enc W fuel cs x} h => ?_⟩
  obtain ⟨xs, n, _, hx, hl, hxs, hf⟩ := DataW.trod_struct Try.underlying51 h
  rw [hc] at hl
  have hxs : xs.length = 5 := hxs
  obtain ⟨y0, h0⟩ := field_open oi (hf 0 _ rfl) (by omega)
  obtain ⟨y1, h1⟩ := field_open os (hf 1 _ rfl) (by omega)
  obtain ⟨y2, h2⟩ := field_open os (hf 2 _ rfl) (by omega)
  obtain ⟨y3, h3⟩ := field_open oi (hf 3 _ rfl) (by omega)
  obtain ⟨y4, h4⟩ := field_open ob (hf 4 _ rfl) (by omega)
  clear hf h hx
  match cs, hl with
  | [c0, c1, c2, c3, c4], _ =>
    obtain ⟨e0, g0⟩ := at_int h0
    obtain ⟨e1, g1⟩ := at_str h1
    obtain ⟨e2, g2⟩ := at_str h2
    obtain ⟨e3, g3⟩ := at_int h3
    obtain ⟨e4, g4⟩ := at_int h4
    simp [Kd.int, Kd.str] at e0 e1 e2 e3 e4
    subst e0 e1 e2 e3 e4
    exact ⟨⟨y0, y1, y2, y3, y4⟩, ⟨rfl, g0, g1, g2, g3, g4⟩⟩

/-- The i-th of a list of acts. -/
theorem act23_at {w : World} {M : List Nat} {v : Value} {l : List Act23} (h : kAct23.slice.At M w [v] l) {i : Nat} {x : Act23} (hx : l[i]? = some x) :
    ∃ b o cap, v = .slice (some ⟨b, o, none⟩) l.length cap ∧ b < w.heap.size ∧ b ∉ M ∧ l.length ≤ cap ∧ cap ≤ maxLen ∧ (Lit.int .i64 x.kind).wf = true ∧ x.name.size ≤ maxLen ∧ x.text.size ≤ maxLen ∧ (Lit.int .i64 x.at_).wf = true ∧ (Lit.int .u8 x.by_).wf = true ∧
      w.cell? ⟨b, o + i * 5, none⟩ = some (.int .i64 x.kind) ∧ w.cell? ⟨b, o + i * 5 + 1, none⟩ = some (.string x.name) ∧ w.cell? ⟨b, o + i * 5 + 2, none⟩ = some (.string x.text) ∧
      w.cell? ⟨b, o + i * 5 + 3, none⟩ = some (.int .i64 x.at_) ∧ w.cell? ⟨b, o + i * 5 + 4, none⟩ = some (.int .u8 x.by_) := by
  obtain ⟨b, o, cap, h1, h2, h3, h4, h5, cs', hr, hc⟩ := Kd.slice_get h hx
  obtain ⟨e, g0, g1, g2, g3, g4⟩ := hr.out
  subst e
  exact ⟨b, o, cap, h1, h2, h3, h4, h5, g0, g1, g2, g3, g4, hc 0 _ rfl, hc 1 _ rfl, hc 2 _ rfl, hc 3 _ rfl, hc 4 _ rfl⟩

def few23 (l : List Act23) : Bool := l.length ≤ 61 && l.all (fun x => x.name.size ≤ 100 && x.text.size ≤ 1000)

theorem few23_bad {l : List Act23} {k : Nat} {x : Act23} (hx : l[k]? = some x) (h : 100 < x.name.size ∨ 1000 < x.text.size ∨ 60 < k) : few23 l = false := by
  have hk := (List.getElem?_eq_some_iff.1 hx).1
  have hm := List.mem_of_getElem? hx
  rw [← Bool.not_eq_true]
  intro hf
  simp only [few23, Bool.and_eq_true, decide_eq_true_eq, List.all_eq_true] at hf
  have := hf.2 x hm
  omega
theorem few23_step {l : List Act23} {k : Nat} {x : Act23} (hx : l[k]? = some x) (h : few23 (l.take k) = true) (h1 : x.name.size ≤ 100) (h2 : x.text.size ≤ 1000) (h3 : k ≤ 60) : few23 (l.take (k + 1)) = true := by
  rw [take_snoc' hx]
  simp only [few23, Bool.and_eq_true, decide_eq_true_eq, List.all_eq_true] at h ⊢
  refine ⟨by simp; omega, fun y hy => ?_⟩
  rcases List.mem_append.1 hy with hy | hy
  · exact h.2 y hy
  · simp at hy; subst hy; exact ⟨h1, h2⟩

set_option maxHeartbeats 1000000 in
theorem few23_calls (v : Value) (l : List Act23) (M : List Nat) (w : World) (h : kAct23.slice.At M w [v] l) : Calls Try.prog 26 #[v] w fun e w' => e = .returned (.bool (few23 l)) ∧ w = w' := by
  obtain ⟨ao, cap, rfl, hl, hcap⟩ := Kd.slice_form h
  have H := Lib.hid h
  clear h
  unfold maxLen at hcap
  go_enter Try.func26, Try.ntmps26
  go_wp2
  go_loop [3] (fun i => ∃ k : Nat, k ≤ l.length ∧ i = .int .i64 k ∧ Hid (few23 (l.take k) = true)) (fun i => l.length - (intOf i).toNat)
  case atStart => exact ⟨0, Nat.zero_le _, rfl, by show few23 [] = true; rfl⟩
  case round =>
    obtain ⟨k, hk, rfl, hq⟩ := hrel
    by_cases hlt : k < l.length
    · obtain ⟨x, hx⟩ : ∃ x, l[k]? = some x := ⟨_, List.getElem?_eq_getElem hlt⟩
      obtain ⟨b, o, cap', hv, hb, _, _, _, g0, g1, g2, g3, g4, c0, c1, c2, c3, c4⟩ := act23_at H.out hx
      simp at hv
      obtain ⟨rfl, rfl⟩ := hv
      have HX := Lib.hid hx
      clear hx
      go_wp2
      · go_ret
        rw [few23_bad HX.out (by omega)]
        exact ⟨rfl, rfl⟩
      · go_round
        case rel => exact ⟨k + 1, by omega, by go_num, few23_step HX.out hq (by omega) (by omega) (by omega)⟩
        case measure => simp [intOf]; omega
      · go_ret
        rw [few23_bad HX.out (by omega)]
        exact ⟨rfl, rfl⟩
      · go_ret
        rw [few23_bad HX.out (by omega)]
        exact ⟨rfl, rfl⟩
    · have e : l.take k = l := List.take_of_length_le (by omega)
      rw [e] at hq
      have HQ := Lib.hid hq.out
      clear e hq
      go_wp2
      go_ret
      rw [HQ.out]
      exact ⟨rfl, rfl⟩

theorem IsStore.upd {w w' : World} {S : List Nat} {p m : Nat} {L : List (ByteArray × ByteArray)} (h : IsStore w p m L) (hu : Upd S w w') (hp : p ∉ S) (hm : m ∉ S) : IsStore w' p m L := by
  obtain ⟨h1, ⟨es, clock, h2, h3⟩, h4, h5⟩ := h
  exact ⟨(hu.block _ (block_lt h1) hp).trans h1, ⟨es, clock, (hu.block _ (block_lt h2) hm).trans h2, h3⟩, h4, h5⟩

/-- What an act does to files. -/
def play23 (L : List (ByteArray × ByteArray)) (a : Act23) : List (ByteArray × ByteArray) :=
  if a.kind = 0 then (fwrite L a.name a.text).1 else if a.kind = 1 then (fremove L a.name).1 else if a.kind = 2 then (fspoil L a.name a.at_ a.by_).1 else L

theorem play23_0 {x : Act23} (h : (x.kind == 0) = true) (L : List (ByteArray × ByteArray)) : play23 L x = (fwrite L x.name x.text).1 := by
  unfold play23; rw [if_pos (by simpa using h)]
theorem play23_1 {x : Act23} (h : (x.kind == 0) = false) (h1 : (x.kind == 1) = true) (L : List (ByteArray × ByteArray)) : play23 L x = (fremove L x.name).1 := by
  unfold play23; rw [if_neg (by simpa using h), if_pos (by simpa using h1)]
theorem play23_2 {x : Act23} (h : (x.kind == 0) = false) (h1 : (x.kind == 1) = false) (h2 : (x.kind == 2) = true) (L : List (ByteArray × ByteArray)) : play23 L x = (fspoil L x.name x.at_ x.by_).1 := by
  unfold play23; rw [if_neg (by simpa using h), if_neg (by simpa using h1), if_pos (by simpa using h2)]
theorem play23_3 {x : Act23} (h : (x.kind == 0) = false) (h1 : (x.kind == 1) = false) (h2 : (x.kind == 2) = false) (L : List (ByteArray × ByteArray)) : play23 L x = L := by
  unfold play23; rw [if_neg (by simpa using h), if_neg (by simpa using h1), if_neg (by simpa using h2)]

/-! ### What acts do to one file -/
def turn23 (x : Act23) (o : Option ByteArray) : Option ByteArray :=
  if fname x.name = true then
    (if x.kind = 0 then some x.text else if x.kind = 1 then none else if x.kind = 2 then o.map (fun t => if 0 ≤ x.at_ ∧ x.at_ < (t.size : Int) then bturn t x.at_ x.by_ else t) else o)
  else o
theorem sfind_sdel_same (n : ByteArray) : ∀ L : List (ByteArray × ByteArray), (L.map (·.1)).Nodup → sfind (sdel L n) n = none
  | [], _ => by simp [sdel, sfind]
  | x :: L, h => by
    simp only [List.map_cons, List.nodup_cons] at h
    by_cases hn : (n == x.1) = true
    · simp only [sdel, hn, if_true]
      have e : n = x.1 := beqB.1 hn
      rw [← e] at h
      cases hx : sidx L n 0 with
      | none => rw [← sidx_sfind n L 0, hx]; rfl
      | some y =>
        obtain ⟨_, _, h3⟩ := sidx_lt n L 0 hx
        have := (h3 y.1 (by omega)).1
        exfalso
        apply h.1
        cases hl : L[y.1]? with
        | none => rw [hl] at this; simp at this
        | some z => rw [hl] at this; simp at this; exact List.mem_map.2 ⟨z, List.mem_of_getElem? hl, this⟩
    · simp only [Bool.not_eq_true] at hn
      simp only [sdel, hn, Bool.false_eq_true, if_false, sfind_cons]
      exact sfind_sdel_same n L h.2
theorem sfind_sdel_other (n k : ByteArray) (h : (k == n) = false) : ∀ L : List (ByteArray × ByteArray), sfind (sdel L n) k = sfind L k
  | [] => by simp [sdel]
  | x :: L => by
    by_cases hn : (n == x.1) = true
    · have e : n = x.1 := beqB.1 hn
      simp only [sdel, hn, if_true, sfind_cons]
      rw [← e, h]; rfl
    · simp only [Bool.not_eq_true] at hn
      simp only [sdel, hn, Bool.false_eq_true, if_false, sfind_cons, sfind_sdel_other n k h L]
theorem sdel_none (n : ByteArray) (L : List (ByteArray × ByteArray)) (h : sfind L n = none) : sdel L n = L := by
  have := sidx_sfind n L 0
  cases hx : sidx L n 0 with
  | none => exact (sidx_none n L 0 hx).2.2
  | some y => rw [hx, h] at this; simp at this

/-- Files are few, short, and of unlike names. -/
structure Fine (L : List (ByteArray × ByteArray)) (k : Nat) : Prop where
  len : L.length ≤ k
  sum : fsum L ≤ 1000 * k
  nd : (L.map (·.1)).Nodup
  ok : ∀ m, fname m = false → sfind L m = none
theorem Fine.play {L : List (ByteArray × ByteArray)} {k : Nat} (h : Fine L k) (hk : k < 16) {x : Act23} (hx : x.text.size ≤ 1000) :
    Fine (play23 L x) (k + 1) ∧ sfind (play23 L x) x.name = turn23 x (sfind L x.name) ∧ ∀ n, (n == x.name) = false → sfind (play23 L x) n = sfind L n := by
  have hl := h.len
  have hs := h.sum
  have same : Fine L (k + 1) := ⟨by omega, by omega, h.nd, h.ok⟩
  have hother : fname x.name = true → ∀ m, fname m = false → (m == x.name) = false := fun h1 m h2 => beqB_false.2 (fun e => by rw [e, h1] at h2; cases h2)
  unfold play23 turn23
  cases hf : fname x.name with
  | false =>
    have e : ffind L x.name = (⟨#[]⟩, 13) := by simp [ffind, hf]
    simp [fwrite, fremove, fspoil, hf, e]
    exact same
  | true =>
    by_cases h0 : x.kind = 0
    · simp only [h0, if_true]
      rw [fwrite_small _ _ _ hf (by omega) (by omega)]
      refine ⟨⟨?_, ?_, (sput_keys _ _ _ h.nd).1, fun m hm => (sfind_sput_other _ _ _ (hother hf m hm) _).trans (h.ok m hm)⟩, sfind_sput_same _ _ _, fun n hn => sfind_sput_other _ _ _ hn _⟩
      · show (sput L x.name x.text).length ≤ k + 1
        rw [sput_length]; split <;> omega
      · have := fsum_sput x.name x.text L
        show fsum (sput L x.name x.text) ≤ _
        omega
    · by_cases h1 : x.kind = 1
      · simp only [h1, if_true, show ¬ (1 : Int) = 0 by decide, if_false]
        cases hx2 : sfind L x.name with
        | none =>
          have e : fremove L x.name = (L, 10) := by simp [fremove, ffind, hf, hx2]
          rw [e]
          exact ⟨same, hx2, fun n hn => rfl⟩
        | some t =>
          have e : fremove L x.name = (sdel L x.name, 0) := by simp [fremove, ffind, hf, hx2]
          rw [e]
          refine ⟨⟨?_, ?_, h.nd.sublist ((sdel_sub _ L).map _), fun m hm => (sfind_sdel_other _ _ (hother hf m hm) _).trans (h.ok m hm)⟩, sfind_sdel_same _ _ h.nd, fun n hn => sfind_sdel_other _ _ hn _⟩
          · have := (sdel_sub x.name L).length_le
            show (sdel L x.name).length ≤ k + 1
            omega
          · have := fsum_sdel x.name L
            show fsum (sdel L x.name) ≤ _
            omega
      · by_cases h2 : x.kind = 2
        · simp only [h2, show ¬ (2 : Int) = 0 by decide, show ¬ (2 : Int) = 1 by decide, if_true, if_false]
          cases hx2 : sfind L x.name with
          | none =>
            have e : fspoil L x.name x.at_ x.by_ = (L, 10) := by simp [fspoil, ffind, hf, hx2]
            rw [e]
            exact ⟨same, hx2, fun n hn => rfl⟩
          | some t =>
            have e0 : ffind L x.name = (t, 0) := by simp [ffind, hf, hx2]
            by_cases hr : 0 ≤ x.at_ ∧ x.at_ < (t.size : Int)
            · have e : fspoil L x.name x.at_ x.by_ = (sput L x.name (bturn t x.at_ x.by_), 0) := by
                simp only [fspoil, e0, if_true]; rw [if_pos hr]
              rw [e]
              refine ⟨⟨?_, ?_, (sput_keys _ _ _ h.nd).1, fun m hm => (sfind_sput_other _ _ _ (hother hf m hm) _).trans (h.ok m hm)⟩, ?_, fun n hn => sfind_sput_other _ _ _ hn _⟩
              · show (sput L x.name _).length ≤ k + 1
                rw [sput_length, hx2]; simp; omega
              · have h3 := fsum_sput x.name (bturn t x.at_ x.by_) L
                rw [hx2, bturn_size] at h3
                simp only [Option.getD_some] at h3
                show fsum (sput L x.name _) ≤ _
                omega
              · rw [show sfind (sput L x.name (bturn t x.at_ x.by_), (0 : Int)).1 x.name = _ from sfind_sput_same _ _ _]
                simp only [Option.map_some]; rw [if_pos hr]
            · have e : fspoil L x.name x.at_ x.by_ = (L, 1) := by
                simp only [fspoil, e0, if_true]; rw [if_neg hr]
              rw [e]
              refine ⟨same, ?_, fun n hn => rfl⟩
              simp only [Option.map_some]; rw [if_neg hr]; exact hx2
        · simp only [h0, h1, h2, if_false]
          exact ⟨same, rfl, fun n hn => trivial⟩

theorem fold23 (n : ByteArray) : ∀ (l : List Act23) (k : Nat) (L1 L2 : List (ByteArray × ByteArray)), (∀ x ∈ l, x.text.size ≤ 1000) → k + l.length ≤ 16 → Fine L1 k → Fine L2 k → sfind L1 n = sfind L2 n →
    (∀ m, (m == n) = false → sfind L2 m = none) →
    Fine (l.foldl play23 L1) (k + l.length) ∧ Fine ((l.filter (fun a => a.name == n)).foldl play23 L2) (k + l.length) ∧ sfind (l.foldl play23 L1) n = sfind ((l.filter (fun a => a.name == n)).foldl play23 L2) n ∧
    ∀ m, (m == n) = false → sfind ((l.filter (fun a => a.name == n)).foldl play23 L2) m = none
  | [], k, L1, L2, _, _, h1, h2, h3, h4 => by simpa using ⟨h1, h2, h3, h4⟩
  | x :: l, k, L1, L2, ht, hk, h1, h2, h3, h4 => by
    simp only [List.length_cons] at hk
    obtain ⟨a1, a2, a3⟩ := h1.play (by omega) (ht x (by simp))
    obtain ⟨b1, b2, b3⟩ := h2.play (by omega) (ht x (by simp))
    have e : k + (x :: l).length = (k + 1) + l.length := by simp; omega
    rw [e]
    cases hn : (x.name == n) with
    | true =>
      have en := beqB.1 hn
      simp only [List.filter_cons, hn, if_true, List.foldl_cons]
      refine fold23 n l (k + 1) _ _ (fun y hy => ht y (by simp [hy])) (by omega) a1 b1 ?_ ?_
      · rw [← en, a2, b2, en, h3]
      · intro m hm
        rw [b3 m (by rw [en]; exact hm)]
        exact h4 m hm
    | false =>
      have hn' : (n == x.name) = false := beqB_false.2 (fun e => beqB_false.1 hn e.symm)
      simp only [List.filter_cons, hn, Bool.false_eq_true, if_false, List.foldl_cons]
      refine fold23 n l (k + 1) _ _ (fun y hy => ht y (by simp [hy])) (by omega) a1 ⟨by have := h2.len; omega, by have := h2.sum; omega, h2.nd, h2.ok⟩ ?_ h4
      rw [a3 n hn', h3]

/-- What of an act is small. -/
structure Small23 (x : Act23) (L1 L2 : List (ByteArray × ByteArray)) : Prop where
  text : x.text.size ≤ 1000
  by0 : 0 ≤ x.by_
  by1 : x.by_ ≤ 255
  len1 : L1.length ≤ 16
  len2 : L2.length ≤ 16

theorem few23_mem {l : List Act23} (h : few23 l = true) : ∀ x ∈ l, x.name.size ≤ 100 ∧ x.text.size ≤ 1000 := by
  simp only [few23, Bool.and_eq_true, decide_eq_true_eq, List.all_eq_true] at h
  intro x hx
  simpa using h.2 x hx
theorem Fine.nil : Fine [] 0 := ⟨Nat.le_refl _, Nat.le_refl _, by simp, by simp [sfind]⟩
theorem small23 {l : List Act23} (hf : few23 l = true) (hl : l.length ≤ 14) {n : ByteArray} {k : Nat} {x : Act23} (hx : l[k]? = some x) (hb : (Lit.int .u8 x.by_).wf = true) : Small23 x ((l.take k).foldl play23 []) (((l.take k).filter (fun a => a.name == n)).foldl play23 []) := by
  have hm := few23_mem hf
  have hkl : (l.take k).length ≤ 14 := by have := List.length_take_le' k l; omega
  obtain ⟨a1, a2, _, _⟩ := fold23 n (l.take k) 0 [] [] (fun y hy => (hm y (List.mem_of_mem_take hy)).2) (by omega) Fine.nil Fine.nil rfl (by simp [sfind])
  have hb : 0 ≤ x.by_ ∧ x.by_ ≤ 255 := by
    simp [Lit.wf, IntKind.min, IntKind.max, IntKind.signed, IntKind.bits] at hb
    omega
  exact ⟨(hm x (List.mem_of_getElem? hx)).2, hb.1, hb.2, by have := a1.len; omega, by have := a2.len; omega⟩
theorem inv23_end {l : List Act23} (hf : few23 l = true) {n : ByteArray} (hl : l.length ≤ 14) : ffind (l.foldl play23 []) n = ffind ((l.filter (fun a => a.name == n)).foldl play23 []) n ∧
    fsum ((l.filter (fun a => a.name == n)).foldl play23 []) = (ffind ((l.filter (fun a => a.name == n)).foldl play23 []) n).1.size := by
  have hm := few23_mem hf
  obtain ⟨a1, a2, a3, a4⟩ := fold23 n l 0 [] [] (fun y hy => (hm y hy).2) (by omega) Fine.nil Fine.nil rfl (by simp [sfind])
  refine ⟨by simp [ffind, a3], ?_⟩
  generalize (l.filter (fun a => a.name == n)).foldl play23 [] = L at *
  have hkey : ∀ y ∈ L, y.1 = n := by
    intro y hy
    rcases Classical.em (y.1 = n) with h | h
    · exact h
    · exfalso
      have h0 := a4 y.1 (beqB_false.2 h)
      have := sidx_sfind y.1 L 0
      rw [h0] at this
      cases hx : sidx L y.1 0 with
      | none => exact (sidx_none y.1 L 0 hx).2.1 (List.mem_map.2 ⟨y, hy, rfl⟩)
      | some z => rw [hx] at this; simp at this
  have hnd := a2.nd
  have hok := a2.ok n
  match L, hkey, hnd, hok with
  | [], _, _, _ => cases h : fname n <;> simp [fsum, ffind, sfind, h] <;> rfl
  | [y], hkey, _, hok =>
    have e := hkey y (by simp)
    have hs : sfind [y] n = some y.2 := by rw [sfind_cons, e, if_pos (beqB_self n)]
    cases h : fname n with
    | true => simp [fsum, ffind, hs, h]
    | false => rw [hok h] at hs; cases hs
  | y :: z :: r, hkey, hnd, _ =>
    exfalso
    simp [hkey y (by simp), hkey z (by simp)] at hnd

/-- Two stores, and nothing old has turned. -/
structure Two (w wr : World) (p1 m1 p2 m2 : Nat) (L1 L2 : List (ByteArray × ByteArray)) : Prop where
  one : IsStore wr p1 m1 L1
  two : IsStore wr p2 m2 L2
  old : Below w.heap.size w wr
  far : w.heap.size ≤ p1 ∧ w.heap.size ≤ m1 ∧ w.heap.size ≤ p2 ∧ w.heap.size ≤ m2 ∧ p1 ≠ p2 ∧ p1 ≠ m2 ∧ m1 ≠ p2 ∧ m1 ≠ m2

theorem new_calls' (w : World) : Calls Try.prog 27 #[] w fun e w' => ∃ p m, e = .returned (.pointer (some ⟨p, 0, none⟩)) ∧ IsStore w' p m [] ∧ w.heap.size ≤ p ∧ w.heap.size ≤ m ∧ Below w.heap.size w w' :=
  (new_calls w).mono fun e w' ⟨h1, h2, h3⟩ => ⟨_, _, h1, h2, by omega, by omega, h3⟩

/-- The inner loop's head: j stores have been told of act x. -/
structure Inner (w wr : World) (B p1 m1 p2 m2 : Nat) (L1 L2 : List (ByteArray × ByteArray)) (x : Act23) (v : Value) (l : List Act23) : Prop where
  two : Two w wr p1 m1 p2 m2 L1 L2
  box : wr.heap[B]? = some (.cells #[.int .i64 x.kind, .string x.name, .string x.text, .int .i64 x.at_, .int .u8 x.by_] 51 (0, 0))
  row : wr.heap[B + 1]? = some (.cells #[.pointer (some ⟨p1, 0, none⟩), .pointer (some ⟨p2, 0, none⟩)] 47 (0, 0))
  arg : kAct23.slice.At [] w [v] l
  far : p1 ≠ B ∧ m1 ≠ B ∧ p2 ≠ B ∧ m2 ≠ B ∧ p1 ≠ B + 1 ∧ m1 ≠ B + 1 ∧ p2 ≠ B + 1 ∧ m2 ≠ B + 1

theorem Inner.one {w wr wx : World} {B p1 m1 p2 m2 : Nat} {L1 L2 L1' : List (ByteArray × ByteArray)} {x : Act23} {v : Value} {l : List Act23} (h : Inner w wr B p1 m1 p2 m2 L1 L2 x v l) (hs : IsStore wx p1 m1 L1') (hu : Upd [p1, m1] wr wx) : Inner w wx B p1 m1 p2 m2 L1' L2 x v l := by
  obtain ⟨⟨a1, a2, a3, a4⟩, b, c, d, f⟩ := h
  have z := a3.size
  refine ⟨⟨hs, a2.upd hu (by simp; omega) (by simp; omega), a3.trans (hu.belowB z (by simp; omega)), a4⟩, ?_, ?_, d, f⟩
  · rw [hu.block _ (block_lt b) (by simp; omega)]; exact b
  · rw [hu.block _ (block_lt c) (by simp; omega)]; exact c
theorem Inner.other {w wr wx : World} {B p1 m1 p2 m2 : Nat} {L1 L2 L2' : List (ByteArray × ByteArray)} {x : Act23} {v : Value} {l : List Act23} (h : Inner w wr B p1 m1 p2 m2 L1 L2 x v l) (hs : IsStore wx p2 m2 L2') (hu : Upd [p2, m2] wr wx) : Inner w wx B p1 m1 p2 m2 L1 L2' x v l := by
  obtain ⟨⟨a1, a2, a3, a4⟩, b, c, d, f⟩ := h
  have z := a3.size
  refine ⟨⟨a1.upd hu (by simp; omega) (by simp; omega), hs, a3.trans (hu.belowB z (by simp; omega)), a4⟩, ?_, ?_, d, f⟩
  · rw [hu.block _ (block_lt b) (by simp; omega)]; exact b
  · rw [hu.block _ (block_lt c) (by simp; omega)]; exact c

theorem inner_start {w wr : World} {p1 m1 p2 m2 : Nat} {L1 L2 : List (ByteArray × ByteArray)} {x : Act23} {v : Value} {l : List Act23} (h : Two w wr p1 m1 p2 m2 L1 L2) (ha : kAct23.slice.At [] w [v] l) :
    Inner w ((wr.alloc (.cells #[.int .i64 x.kind, .string x.name, .string x.text, .int .i64 x.at_, .int .u8 x.by_] 51)).alloc (.cells #[.pointer (some ⟨p1, 0, none⟩), .pointer (some ⟨p2, 0, none⟩)] 47)) wr.heap.size p1 m1 p2 m2 L1 L2 x v l := by
  obtain ⟨a1, a2, a3, a4⟩ := h
  have y1 := block_lt a1.blk
  have y2 := block_lt a2.blk
  obtain ⟨_, _, y3, _⟩ := a1.map
  have y3 := block_lt y3
  obtain ⟨_, _, y4, _⟩ := a2.map
  have y4 := block_lt y4
  have hu := (Upd.alloc [] wr (.cells #[.int .i64 x.kind, .string x.name, .string x.text, .int .i64 x.at_, .int .u8 x.by_] 51)).trans (Upd.alloc [] _ (.cells #[.pointer (some ⟨p1, 0, none⟩), .pointer (some ⟨p2, 0, none⟩)] 47))
  refine ⟨⟨a1.upd hu (by simp) (by simp), a2.upd hu (by simp) (by simp), a3.trans ((hu.below).mono a3.size), a4⟩, ?_, ?_, ha, by omega, by omega, by omega, by omega, by omega, by omega, by omega, by omega⟩
  · rw [Below.heap_alloc _ _ _ (by simp)]; exact Go.heap_alloc_new wr _
  · have := Go.heap_alloc_new (wr.alloc (.cells #[.int .i64 x.kind, .string x.name, .string x.text, .int .i64 x.at_, .int .u8 x.by_] 51)) (.cells #[.pointer (some ⟨p1, 0, none⟩), .pointer (some ⟨p2, 0, none⟩)] 47)
    rwa [World.size_alloc] at this

end Go.Proofs.Yteafbhpjjibdeaa
