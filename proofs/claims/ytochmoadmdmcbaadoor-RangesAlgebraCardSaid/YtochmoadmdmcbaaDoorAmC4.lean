/- The program's combine: what is handed to it, and the places where two sets begin or end. -/
import Derived.Test.YtochmoadmdmcbaaDoorAmC1
namespace Go.Am.S7
open Go
set_option maxRecDepth 100000
set_option linter.unusedSimpArgs false
set_option linter.unusedVariables false
variable {fs : Nat → Option D} {ro : Nat} {h : Hp} {e : Env}

theorem ev45n {v : V} {l : List (Int × Int)} (hf : fs 45 = some (.code F45)) (hv : SlG h v l) (hw : ∀ b x, h.get b = some x → b < h.nx) (hn : l.length ≤ 1000000) {Q : V → Hp → Prop}
    (hq : ∀ x h', SlG h' x l → (x = .nsl ∧ l = [] ∨ ground x = false) → Fr h h' → Nx h.nx x l → Q x h') : Ev fs ro 45 [v] h Q := by
  refine Ev_fn hf rfl rfl rfl rfl ?_
  have hnew : Fr h (h.new (.cells 2 [])) := (Fr.refl hw).new _
  have hsn : shown (h.new (.cells 2 [])) 2 h.nx 0 0 = some [] := (Sl.ofNew (h := h) (sz := 2) (n := 0) (c := 1) (l := []) rfl).2
  cases v <;> simp only [SlG, Sl] at hv
  case nsl =>
    obtain ⟨hv1, hv2⟩ := hv
    have hl : l = [] := List.eq_nil_of_length_eq_zero hv1
    subst hl
    repeat (first | refine WP_seq ?_ | refine WP_reg ?_ | (refine WPO_op rfl ?_; simp) | (refine WPO_nil ?_; simp))
    refine WP_cond rfl ⟨fun hd => ?_, fun hd => (by cases hd)⟩
    repeat (first | refine WP_seq ?_ | refine WP_reg ?_ | (refine WPO_op rfl ?_; simp) | (refine WPO_nil ?_; simp))
    simp [WP_ret, F45]
    exact hq .nsl h ⟨rfl, rfl⟩ (.inl ⟨rfl, rfl⟩) (Fr.refl hw) (.inl (.inl rfl))
  case esl =>
    obtain ⟨hv1, hv2⟩ := hv
    have hl : l = [] := List.eq_nil_of_length_eq_zero hv1
    subst hl
    repeat (first | refine WP_seq ?_ | refine WP_reg ?_ | (refine WPO_op rfl ?_; simp) | (refine WPO_nil ?_; simp))
    refine WP_cond rfl ⟨fun hd => (by cases hd), fun hd => ?_⟩
    simp only [WP_skip, nrmOr_nrm]
    refine WP_seq ?_
    refine WP_reg ?_
    refine WPO_op rfl ?_
    simp [evParts, zeros, fill]
    refine WPO_op rfl ?_
    simp
    refine WPO_op rfl ?_
    simp [op1, app]
    refine WPO_op rfl ?_
    simp
    refine WPO_nil ?_
    simp [WP_ret, F45]
    exact hq _ _ ⟨rfl, hsn⟩ (.inr rfl) hnew (.inr ⟨_, rfl, rfl⟩)
  case sl b o n c =>
    obtain ⟨rfl, hs⟩ := hv
    repeat (first | refine WP_seq ?_ | refine WP_reg ?_ | (refine WPO_op rfl ?_; simp) | (refine WPO_nil ?_; simp))
    refine WP_cond rfl ⟨fun hd => (by cases hd), fun hd => ?_⟩
    simp only [WP_skip, nrmOr_nrm]
    have hs2 := shown_fr hnew hs
    refine WP_seq ?_
    refine WP_reg ?_
    refine WPO_op rfl ?_
    simp [evParts, zeros, fill]
    refine WPO_op rfl ?_
    simp
    refine WPO_op rfl ?_
    by_cases hl : l.length = 0
    · have hl' : l = [] := List.eq_nil_of_length_eq_zero hl
      subst hl'
      rw [op1_app (v := .sl h.nx 0 0 1) (b := b) (o := o) (m := 0) (c := c) (v' := .sl h.nx 0 0 1) (h' := h.new (.cells 2 [])) rfl rfl hs2 rfl (by simp [app])]
      simp
      refine WPO_op rfl ?_
      simp
      refine WPO_nil ?_
      simp [WP_ret, F45]
      exact hq _ _ ⟨rfl, hsn⟩ (.inr rfl) hnew (.inr ⟨_, rfl, rfl⟩)
    · have happ : app ro (h.new (.cells 2 [])) 2 16 (.sl h.nx 0 0 1) l.length (flat l) = some (.sl (h.new (.cells 2 [])).nx 0 l.length 0, (h.new (.cells 2 [])).new (.cells 2 (flat l))) := by
        simp only [app]
        rw [if_neg hl, if_pos (by unfold roomMax; omega), if_neg (by omega), if_neg (by omega), hsn]
        simp
      rw [op1_app (v := .sl h.nx 0 0 1) (b := b) (o := o) (m := l.length) (c := c) rfl rfl hs2 (flat_one l) happ]
      simp
      refine WPO_op rfl ?_
      simp
      refine WPO_nil ?_
      simp [WP_ret, F45]
      refine hq _ _ ?_ (.inr rfl) (hnew.new _) (.inl (.inr ⟨_, _, _, rfl, by simp⟩))
      exact Sl.ofNew (h := h.new (.cells 2 [])) (flat_len l)



theorem app_nx {h0 h2 : Hp} {a t : List Rg} {v : V} (hw0 : ∀ b x, h0.get b = some x → b < h0.nx) (hro : ro ≤ h0.nx) (hf : Fr h0 h2) (hv : SlG h2 v a) (ho : Nx h0.nx v a) (hl : a.length + t.length ≤ 1000000) :
    ∃ v' h', app ro h2 2 16 v t.length (flat t) = some (v', h') ∧ SlG h' v' (a ++ t) ∧ Fr h0 h' := by
  rcases ho with ho | ⟨b, rfl, rfl⟩
  · obtain ⟨v', h', h1, h2, _, h4⟩ := app_many (ro := ro) hw0 hro hf hv ho hl
    exact ⟨v', h', h1, h2, h4⟩
  · obtain ⟨v', h', h1, h2, _, h4⟩ := app_base (ro := ro) (t := t) hf hv.2 (by omega)
    exact ⟨v', h', h1, h2, h4⟩

theorem ev39 {x y : Bool} (hf : fs 39 = some (.code F39)) {Q : V → Hp → Prop} (hq : ∀ h', Q (.bool (x || y)) h') : Ev fs ro 39 [.bool x, .bool y] h Q := by
  refine Ev_fn hf rfl rfl rfl rfl ?_
  refine WP_seq ?_
  refine WP_reg ?_
  repeat (first | (refine WPO_op rfl ?_; simp) | (refine WPO_nil ?_; simp))
  refine WP_seq ?_
  refine WP_reg ?_
  have := hq h
  cases x <;> cases y <;>
    (repeat (first | (refine WPO_op rfl ?_; simp; done) | (refine WPO_op rfl ?_; simp) | (refine WPO_gop rfl ?_; simp) | (refine WPO_nil ?_; simp))
     simp [WP_ret, F39]
     exact this)
theorem ev40 {x y : Bool} (hf : fs 40 = some (.code F40)) {Q : V → Hp → Prop} (hq : ∀ h', Q (.bool (x && !y)) h') : Ev fs ro 40 [.bool x, .bool y] h Q := by
  refine Ev_fn hf rfl rfl rfl rfl ?_
  refine WP_seq ?_
  refine WP_reg ?_
  repeat (first | (refine WPO_op rfl ?_; simp) | (refine WPO_nil ?_; simp))
  refine WP_seq ?_
  refine WP_reg ?_
  have := hq h
  cases x <;> cases y <;>
    (repeat (first | (refine WPO_op rfl ?_; simp; done) | (refine WPO_op rfl ?_; simp) | (refine WPO_gop rfl ?_; simp) | (refine WPO_nil ?_; simp))
     simp [WP_ret, F40]
     exact this)
theorem ev41 {x y : Bool} (hf : fs 41 = some (.code F41)) {Q : V → Hp → Prop} (hq : ∀ h', Q (.bool (x && y)) h') : Ev fs ro 41 [.bool x, .bool y] h Q := by
  refine Ev_fn hf rfl rfl rfl rfl ?_
  refine WP_seq ?_
  refine WP_reg ?_
  repeat (first | (refine WPO_op rfl ?_; simp) | (refine WPO_nil ?_; simp))
  refine WP_seq ?_
  refine WP_reg ?_
  have := hq h
  cases x <;> cases y <;>
    (repeat (first | (refine WPO_op rfl ?_; simp; done) | (refine WPO_op rfl ?_; simp) | (refine WPO_gop rfl ?_; simp) | (refine WPO_nil ?_; simp))
     simp [WP_ret, F41]
     exact this)

theorem sort_slJ {x : V} {l : List Int} {h0 h2 : Hp} (hf : Fr h0 h2) (hw0 : ∀ b x, h0.get b = some x → b < h0.nx) (hro : ro ≤ h0.nx) (hn : l.length ≤ 1000000) (hs : SlJ h2 x l) (hx : Own h0.nx x) :
    ∃ hS, orcSortI ro [x] h2 = some (.tup [], hS) ∧ SlJ hS x (sortI l) ∧ Fr h0 hS := by
  have hsl : (sortI l).length = l.length := by simp [sortI]
  rcases hx with rfl | ⟨b, o, n, rfl, hb⟩
  · have hl := List.eq_nil_of_length_eq_zero hs.1
    subst hl
    have e : sortI ([] : List Int) = [] := List.eq_nil_of_length_eq_zero hsl
    rw [e]
    exact ⟨h2, rfl, ⟨rfl, rfl⟩, hf⟩
  obtain ⟨rfl, hsh⟩ := hs
  by_cases hl : l.length = 0
  · have hl' := List.eq_nil_of_length_eq_zero hl
    subst hl'
    refine ⟨h2, rfl, ?_, hf⟩
    have : sortI ([] : List Int) = [] := List.eq_nil_of_length_eq_zero hsl
    rw [this]
    exact ⟨rfl, hsh⟩
  obtain ⟨L, hg, hle, hfl⟩ := shown_spec hsh
  have hload : loadN L o l.length = some (l.map (V.int .i64)) := by
    unfold loadN
    have : Nat.ble (o + l.length) L.length = true := Nat.ble_eq_true_of_le (by omega)
    rw [this]
    simp only [cond_true, Option.some.injEq]
    rw [Nat.mul_one] at hfl
    exact hfl.symm
  have hset : setN L o ((sortI l).map (V.int .i64)) = some (L.take o ++ ((sortI l).map (V.int .i64) ++ L.drop (o + ((sortI l).map (V.int .i64)).length))) := by
    unfold setN
    have : Nat.ble (o + ((sortI l).map (V.int .i64)).length) L.length = true := Nat.ble_eq_true_of_le (by rw [List.length_map, hsl]; omega)
    rw [this]
    rfl
  refine ⟨h2.set b (.cells 1 (L.take o ++ ((sortI l).map (V.int .i64) ++ L.drop (o + ((sortI l).map (V.int .i64)).length)))), ?_, ?_, hf.set hw0 hb hg _⟩
  · simp only [orcSortI]
    rw [if_neg hl, if_pos ⟨by omega, hn⟩, hg]
    simp [hload, ints_of, hset]
  · refine ⟨hsl.symm, ?_⟩
    have hml : ((sortI l).map (V.int .i64)).length = l.length := by rw [List.length_map, hsl]
    rw [hsl, shown_mk (Hp.get_set_same hg) (by simp only [List.length_append, List.length_take, List.length_drop]; omega)]
    congr 1
    rw [List.drop_append_of_le_length (by simp; omega), List.drop_of_length_le (by simp; omega), List.nil_append, List.take_append_of_le_length (by omega), List.take_of_length_le (by omega)]
    rfl

theorem cmp_slJ {x : V} {l : List Int} {h0 h2 : Hp} (hf : Fr h0 h2) (hw0 : ∀ b x, h0.get b = some x → b < h0.nx) (hro : ro ≤ h0.nx) (hn : l.length ≤ 1000000) (hs : SlJ h2 x l) (hx : Own h0.nx x) :
    ∃ y hS, orcCmp ro [x] h2 = some (y, hS) ∧ SlJ hS y (Lib.compact l) ∧ Own h0.nx y ∧ Fr h0 hS := by
  have hcl := Lib.compact_length_le l
  have hml : (cmpI l).length = l.length := by simp only [cmpI, List.length_append, List.length_replicate]; omega
  rcases hx with rfl | ⟨b, o, n, rfl, hb⟩
  · have hl := List.eq_nil_of_length_eq_zero hs.1
    subst hl
    exact ⟨.nsl, h2, rfl, ⟨rfl, rfl⟩, .inl rfl, hf⟩
  obtain ⟨rfl, hsh⟩ := hs
  by_cases hl : l.length = 0
  · have hl' := List.eq_nil_of_length_eq_zero hl
    subst hl'
    refine ⟨.sl b o 0 0, h2, rfl, ?_, .inr ⟨_, _, _, rfl, hb⟩, hf⟩
    have : Lib.compact ([] : List Int) = [] := List.eq_nil_of_length_eq_zero (by simpa using hcl)
    rw [this]
    exact ⟨rfl, hsh⟩
  obtain ⟨L, hg, hle, hfl⟩ := shown_spec hsh
  have hload : loadN L o l.length = some (l.map (V.int .i64)) := by
    unfold loadN
    have : Nat.ble (o + l.length) L.length = true := Nat.ble_eq_true_of_le (by omega)
    rw [this]
    simp only [cond_true, Option.some.injEq]
    rw [Nat.mul_one] at hfl
    exact hfl.symm
  have hset : setN L o ((cmpI l).map (V.int .i64)) = some (L.take o ++ ((cmpI l).map (V.int .i64) ++ L.drop (o + ((cmpI l).map (V.int .i64)).length))) := by
    unfold setN
    have : Nat.ble (o + ((cmpI l).map (V.int .i64)).length) L.length = true := Nat.ble_eq_true_of_le (by rw [List.length_map, hml]; omega)
    rw [this]
    rfl
  refine ⟨.sl b o (Lib.compact l).length 0, h2.set b (.cells 1 (L.take o ++ ((cmpI l).map (V.int .i64) ++ L.drop (o + ((cmpI l).map (V.int .i64)).length)))), ?_, ?_, .inr ⟨_, _, _, rfl, hb⟩, hf.set hw0 hb hg _⟩
  · simp only [orcCmp]
    rw [if_neg hl, if_pos ⟨by omega, hn⟩, hg]
    simp [hload, ints_of, hset]
  · refine ⟨rfl, ?_⟩
    have hml2 : ((cmpI l).map (V.int .i64)).length = l.length := by rw [List.length_map, hml]
    rw [shown_mk (Hp.get_set_same hg) (by simp only [List.length_append, List.length_take, List.length_drop]; omega)]
    congr 1
    rw [List.drop_append_of_le_length (by simp; omega), List.drop_of_length_le (by simp; omega), List.nil_append, List.take_append_of_le_length (by omega)]
    rw [← List.map_take]
    congr 1
    simp [cmpI]

/-- Where the first range stands that ends behind a place. -/
theorem in_ptr {a : List Rg} (hn : Norm a) {i : Nat} {x : Int} (h1 : ∀ p ∈ a.take i, p.2 ≤ x) (h2 : ∀ p, a[i]? = some p → x < p.2) : inS a x = (match a[i]? with | some p => decide (p.1 ≤ x) | none => false) := by
  have hsp : a.take i ++ a.drop i = a := List.take_append_drop i a
  cases hi : a[i]? with
  | none =>
    have hlen : a.length ≤ i := List.getElem?_eq_none_iff.1 hi
    rw [List.take_of_length_le hlen] at h1
    cases hs : inS a x with
    | false => rfl
    | true =>
      obtain ⟨p, hp, g1, g2⟩ := inS_iff.1 hs
      have := h1 p hp
      omega
  | some p =>
    obtain ⟨hi2, rfl⟩ := List.getElem?_eq_some_iff.1 hi
    have hx := h2 _ hi
    simp only
    rw [Bool.eq_iff_iff, decide_eq_true_eq, inS_iff]
    constructor
    · rintro ⟨q, hq, g1, g2⟩
      obtain ⟨j, hj⟩ := List.getElem?_of_mem hq
      obtain ⟨hj2, rfl⟩ := List.getElem?_eq_some_iff.1 hj
      rcases Nat.lt_trichotomy j i with h3 | h3 | h3
      · have := h1 a[j] (List.mem_iff_getElem?.2 ⟨j, by rw [List.getElem?_take, if_pos h3]; exact hj⟩)
        omega
      · subst h3; exact g1
      · have := List.pairwise_iff_getElem.1 hn.2 i j hi2 hj2 h3
        omega
    · intro g
      exact ⟨a[i], List.getElem_mem hi2, g, hx⟩
end Go.Am.S7
/- The two pointers of the program's combine. -/
namespace Go.Am.S7
open Go
set_option maxRecDepth 100000
set_option linter.unusedSimpArgs false
set_option linter.unusedVariables false
variable {fs : Nat → Option D} {ro : Nat} {h : Hp} {e : Env}

/-- The slots of the great loop. -/
def GE (e : Env) (g p3 p4 : Nat) (y vo : V) (i k n : Nat) (x : Int) : Prop :=
  e.get 2 = some (.fn (.func g) [] []) ∧ e.get 3 = some (.ptr p3 0) ∧ e.get 4 = some (.ptr p4 0) ∧ e.get 7 = some y ∧ e.get 10 = some vo ∧ e.get 11 = some (.int .i64 (i : Nat)) ∧ e.get 12 = some (.int .i64 (k : Nat)) ∧ e.get 13 = some (.int .i64 (n : Nat)) ∧ e.get 14 = some (.int .i64 x)

theorem ptrA {a : List Rg} {v y vo : V} {p3 p4 g i k n : Nat} {x : Int} {h1 : Hp} (hv : SlG h1 v a) (hg3 : h1.get p3 = some (.cells 0 [v])) (hna : a.length ≤ 200) (hi : i ≤ a.length) (hp : ∀ p ∈ a.take i, p.2 ≤ x) (he : GE e g p3 p4 y vo i k n x) {Q : X → Env → Hp → Prop}
    (hq : ∀ i' e', i' ≤ a.length → (∀ p ∈ a.take i', p.2 ≤ x) → (∀ p, a[i']? = some p → x < p.2) → GE e' g p3 p4 y vo i' k n x → Q .nrm e' h1) :
    WP fs ro (.block 4 (.loop (.seq (.seq (.reg .false (some [2, 3, 4, 7, 10, 11, 12, 13, 14, 63]) [⟨(some 49), none, (.mov (.t 11))⟩, ⟨(some 50), none, (.fldA 0 (.t 3))⟩, ⟨(some 51), none, (.load none (.t 50))⟩, ⟨(some 52), none, (.lenSl (.t 51))⟩, ⟨(some 53), none, (.bin .lss (.t 49) (.t 52))⟩, ⟨(some 54), none, (.mov (.t 53))⟩, ⟨(some 55), (some (54, .true)), (.fldA 0 (.t 3))⟩, ⟨(some 56), (some (54, .true)), (.load none (.t 55))⟩, ⟨(some 57), (some (54, .true)), (.mov (.t 11))⟩, ⟨(some 58), (some (54, .true)), (.idxA 2 (.t 56) (.t 57))⟩, ⟨(some 59), (some (54, .true)), (.fldA 1 (.t 58))⟩, ⟨(some 60), (some (54, .true)), (.load none (.t 59))⟩, ⟨(some 61), (some (54, .true)), (.mov (.t 14))⟩, ⟨(some 62), (some (54, .true)), (.bin .leq (.t 60) (.t 61))⟩, ⟨(some 63), none, (.pick (.t 54) (.t 62) (.c (.bool .false)))⟩]) (.cond (.t 63) .skip (.exit 4))) (.block 5 (.reg .false (some [2, 3, 4, 7, 10, 11, 12, 13, 14]) [⟨(some 64), none, (.mov (.t 11))⟩, ⟨(some 65), none, (.bin .add (.t 64) (.c (.int .i64 1)))⟩, ⟨(some 11), none, (.mov (.t 65))⟩]))))) e h1 Q := by
  have hlv := hv.lenV
  refine WP_block ?_
  refine WP_loop (fun m e h2 => ∃ i', m = a.length - i' ∧ i' ≤ a.length ∧ (∀ p ∈ a.take i', p.2 ≤ x) ∧ h1 = h2 ∧ GE e g p3 p4 y vo i' k n x) (a.length - i) ⟨i, rfl, hi, hp, rfl, he⟩ ?_
  rintro m e h2 ⟨i', rfl, hi', hp', rfl, g2, g3, g4, g7, g10, g11, g12, g13, g14⟩
  refine WP_seq ?_
  refine WP_mid (fun e2 h2 => h1 = h2 ∧ GE e2 g p3 p4 y vo i' k n x ∧ e2.get 63 = some (.bool (match a[i']? with | some p => decide (p.2 ≤ x) | none => false))) ?_ ?_
  · refine WP_reg ?_
    by_cases c1 : i' < a.length
    · have hsk : a[i']? = some a[i'] := List.getElem?_eq_getElem c1
      obtain ⟨b2, o2, c2, L2, rfl, hg2, w1, w2⟩ := SlG.at hv hsk
      rw [hsk]
      repeat (first | (refine WPO_op rfl ?_; simp [g2, g3, g4, g7, g10, g11, g12, g13, g14, c1, loadV_ptr hg3, loadV_ptr hg2, w2]; done) | (refine WPO_op rfl ?_; simp [g2, g3, g4, g7, g10, g11, g12, g13, g14, c1, loadV_ptr hg3, loadV_ptr hg2, w2]) | (refine WPO_gop rfl ?_; simp [g2, g3, g4, g7, g10, g11, g12, g13, g14, c1, loadV_ptr hg3, loadV_ptr hg2, w2]) | (refine WPO_nil ?_; simp [GE, g2, g3, g4, g7, g10, g11, g12, g13, g14, c1]))
    · have hsk : a[i']? = none := List.getElem?_eq_none (by omega)
      rw [hsk]
      repeat (first | (refine WPO_op rfl ?_; simp [g2, g3, g4, g7, g10, g11, g12, g13, g14, c1, loadV_ptr hg3, hlv]; done) | (refine WPO_op rfl ?_; simp [g2, g3, g4, g7, g10, g11, g12, g13, g14, c1, loadV_ptr hg3, hlv]) | (refine WPO_gop rfl ?_; simp [c1]) | (refine WPO_nil ?_; simp [GE, g2, g3, g4, g7, g10, g11, g12, g13, g14, c1]))
  rintro e2 h2 ⟨rfl, hG, e63⟩
  refine WP_cond (by simp [e63]; rfl) ⟨fun ht => ?_, fun ht => ?_⟩
  · have hc1 : i' < a.length := by
      rcases Nat.lt_or_ge i' a.length with h3 | h3
      · exact h3
      · rw [List.getElem?_eq_none h3] at ht
        cases ht
    rw [List.getElem?_eq_getElem hc1] at ht
    have hlt2 : a[i'].2 ≤ x := by simpa using ht
    have hwr : IntKind.wrap .i64 ((i' : Int) + 1) = ((i' + 1 : Nat) : Int) := by rw [wrap_i64 (by omega) (by omega)]; omega
    obtain ⟨q2, q3, q4, q7, q10, q11, q12, q13, q14⟩ := hG
    simp only [WP_skip, nrmOr_nrm]
    refine WP_block ?_
    repeat (first | refine WP_reg ?_ | (refine WPO_op rfl ?_; simp [q2, q3, q4, q7, q10, q11, q12, q13, q14]) | (refine WPO_nil ?_; simp [q2, q3, q4, q7, q10, q11, q12, q13, q14]))
    refine ⟨a.length - (i' + 1), by omega, i' + 1, rfl, by omega, fun p1 p2 hp => ?_, ?_⟩
    · rw [List.take_succ_eq_append_getElem hc1] at hp
      rcases List.mem_append.1 hp with hp | hp
      · exact hp' _ hp
      · simp at hp
        rw [← hp] at hlt2
        exact hlt2
    · refine ⟨rfl, rfl, rfl, rfl, rfl, ?_, rfl, rfl, rfl⟩
      rw [← hwr]
      rfl
  · simp only [WP_exit, nrmOr_exit, blkQ_exit, if_pos, nrmOr_nrm, blkQ_nrm]
    refine hq i' _ hi' hp' (fun p hp => ?_) hG
    rw [hp] at ht
    simpa using ht

theorem ptrB {a : List Rg} {v y vo : V} {p3 p4 g i k n : Nat} {x : Int} {h1 : Hp} (hv : SlG h1 v a) (hg3 : h1.get p4 = some (.cells 0 [v])) (hna : a.length ≤ 200) (hi : i ≤ a.length) (hp : ∀ p ∈ a.take i, p.2 ≤ x) (he : GE e g p3 p4 y vo k i n x) {Q : X → Env → Hp → Prop}
    (hq : ∀ i' e', i' ≤ a.length → (∀ p ∈ a.take i', p.2 ≤ x) → (∀ p, a[i']? = some p → x < p.2) → GE e' g p3 p4 y vo k i' n x → Q .nrm e' h1) :
    WP fs ro (.block 6 (.loop (.seq (.seq (.reg .false (some [2, 3, 4, 7, 10, 11, 12, 13, 14, 80]) [⟨(some 66), none, (.mov (.t 12))⟩, ⟨(some 67), none, (.fldA 0 (.t 4))⟩, ⟨(some 68), none, (.load none (.t 67))⟩, ⟨(some 69), none, (.lenSl (.t 68))⟩, ⟨(some 70), none, (.bin .lss (.t 66) (.t 69))⟩, ⟨(some 71), none, (.mov (.t 70))⟩, ⟨(some 72), (some (71, .true)), (.fldA 0 (.t 4))⟩, ⟨(some 73), (some (71, .true)), (.load none (.t 72))⟩, ⟨(some 74), (some (71, .true)), (.mov (.t 12))⟩, ⟨(some 75), (some (71, .true)), (.idxA 2 (.t 73) (.t 74))⟩, ⟨(some 76), (some (71, .true)), (.fldA 1 (.t 75))⟩, ⟨(some 77), (some (71, .true)), (.load none (.t 76))⟩, ⟨(some 78), (some (71, .true)), (.mov (.t 14))⟩, ⟨(some 79), (some (71, .true)), (.bin .leq (.t 77) (.t 78))⟩, ⟨(some 80), none, (.pick (.t 71) (.t 79) (.c (.bool .false)))⟩]) (.cond (.t 80) .skip (.exit 6))) (.block 7 (.reg .false (some [2, 3, 4, 7, 10, 11, 12, 13, 14]) [⟨(some 81), none, (.mov (.t 12))⟩, ⟨(some 82), none, (.bin .add (.t 81) (.c (.int .i64 1)))⟩, ⟨(some 12), none, (.mov (.t 82))⟩]))))) e h1 Q := by
  have hlv := hv.lenV
  refine WP_block ?_
  refine WP_loop (fun m e h2 => ∃ i', m = a.length - i' ∧ i' ≤ a.length ∧ (∀ p ∈ a.take i', p.2 ≤ x) ∧ h1 = h2 ∧ GE e g p3 p4 y vo k i' n x) (a.length - i) ⟨i, rfl, hi, hp, rfl, he⟩ ?_
  rintro m e h2 ⟨i', rfl, hi', hp', rfl, g2, g3, g4, g7, g10, g11, g12, g13, g14⟩
  refine WP_seq ?_
  refine WP_mid (fun e2 h2 => h1 = h2 ∧ GE e2 g p3 p4 y vo k i' n x ∧ e2.get 80 = some (.bool (match a[i']? with | some p => decide (p.2 ≤ x) | none => false))) ?_ ?_
  · refine WP_reg ?_
    by_cases c1 : i' < a.length
    · have hsk : a[i']? = some a[i'] := List.getElem?_eq_getElem c1
      obtain ⟨b2, o2, c2, L2, rfl, hg2, w1, w2⟩ := SlG.at hv hsk
      rw [hsk]
      repeat (first | (refine WPO_op rfl ?_; simp [g2, g3, g4, g7, g10, g11, g12, g13, g14, c1, loadV_ptr hg3, loadV_ptr hg2, w2]; done) | (refine WPO_op rfl ?_; simp [g2, g3, g4, g7, g10, g11, g12, g13, g14, c1, loadV_ptr hg3, loadV_ptr hg2, w2]) | (refine WPO_gop rfl ?_; simp [g2, g3, g4, g7, g10, g11, g12, g13, g14, c1, loadV_ptr hg3, loadV_ptr hg2, w2]) | (refine WPO_nil ?_; simp [GE, g2, g3, g4, g7, g10, g11, g12, g13, g14, c1]))
    · have hsk : a[i']? = none := List.getElem?_eq_none (by omega)
      rw [hsk]
      repeat (first | (refine WPO_op rfl ?_; simp [g2, g3, g4, g7, g10, g11, g12, g13, g14, c1, loadV_ptr hg3, hlv]; done) | (refine WPO_op rfl ?_; simp [g2, g3, g4, g7, g10, g11, g12, g13, g14, c1, loadV_ptr hg3, hlv]) | (refine WPO_gop rfl ?_; simp [c1]) | (refine WPO_nil ?_; simp [GE, g2, g3, g4, g7, g10, g11, g12, g13, g14, c1]))
  rintro e2 h2 ⟨rfl, hG, e80⟩
  refine WP_cond (by simp [e80]; rfl) ⟨fun ht => ?_, fun ht => ?_⟩
  · have hc1 : i' < a.length := by
      rcases Nat.lt_or_ge i' a.length with h3 | h3
      · exact h3
      · rw [List.getElem?_eq_none h3] at ht
        cases ht
    rw [List.getElem?_eq_getElem hc1] at ht
    have hlt2 : a[i'].2 ≤ x := by simpa using ht
    have hwr : IntKind.wrap .i64 ((i' : Int) + 1) = ((i' + 1 : Nat) : Int) := by rw [wrap_i64 (by omega) (by omega)]; omega
    obtain ⟨q2, q3, q4, q7, q10, q11, q12, q13, q14⟩ := hG
    simp only [WP_skip, nrmOr_nrm]
    refine WP_block ?_
    repeat (first | refine WP_reg ?_ | (refine WPO_op rfl ?_; simp [q2, q3, q4, q7, q10, q11, q12, q13, q14]) | (refine WPO_nil ?_; simp [q2, q3, q4, q7, q10, q11, q12, q13, q14]))
    refine ⟨a.length - (i' + 1), by omega, i' + 1, rfl, by omega, fun p1 p2 hp => ?_, ?_⟩
    · rw [List.take_succ_eq_append_getElem hc1] at hp
      rcases List.mem_append.1 hp with hp | hp
      · exact hp' _ hp
      · simp at hp
        rw [← hp] at hlt2
        exact hlt2
    · refine ⟨rfl, rfl, rfl, rfl, rfl, rfl, ?_, rfl, rfl⟩
      rw [← hwr]
      rfl
  · simp only [WP_exit, nrmOr_exit, blkQ_exit, if_pos, nrmOr_nrm, blkQ_nrm]
    refine hq i' _ hi' hp' (fun p hp => ?_) hG
    rw [hp] at ht
    simpa using ht

end Go.Am.S7
