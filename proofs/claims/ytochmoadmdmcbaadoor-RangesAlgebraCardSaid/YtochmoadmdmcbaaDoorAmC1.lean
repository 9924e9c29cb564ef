/- The reference's insert, stepped through. -/
import Derived.Test.YtochmoadmdmcbaaDoorAmB1
import Derived.Test.YtochmoadmdmcbaaDoorAmP3
namespace Go.Am.S7
open Go
set_option maxRecDepth 100000
set_option linter.unusedSimpArgs false
set_option linter.unusedVariables false
variable {fs : Nat → Option D} {ro : Nat} {h : Hp} {e : Env}

theorem ints_take (l : List Int) (k : Nat) : intsV .i64 (l.take k) = (intsV .i64 l).take (k * 1) := by simp [intsV, List.map_take]
theorem ints_drop (l : List Int) (k : Nat) : intsV .i64 (l.drop k) = (intsV .i64 l).drop (k * 1) := by simp [intsV, List.map_drop]
theorem ints_len (l : List Int) : (intsV .i64 l).length = l.length * 1 := by simp [intsV]
theorem ints_append (a b : List Int) : intsV .i64 (a ++ b) = intsV .i64 a ++ intsV .i64 b := by simp [intsV]
theorem ints_one (l : List Int) : (intsV .i64 l).all V.one = true := by simp [intsV, V.one]

/-- The first ranges of a slice. -/
theorem sl_preJ {v : V} {l : List Int} {k : Nat} {x y : A} (hv : SlJ h v l) (hs : Shape v) (hk : k ≤ l.length) (hx : x.ev e = some v) (hy : y.ev e = some (.int .i64 (k : Int))) :
    ∃ u, op1 ro e h (.slSl 1 x none (some y) none) = some (u, h) ∧ SlJ h u (l.take k) ∧ Shape u := by
  have hkt : (l.take k).length = k := by simp; omega
  rcases hs with rfl | rfl | ⟨b, o, n, rfl⟩
  · obtain ⟨hl, _⟩ := hv
    have hl' : l = [] := List.eq_nil_of_length_eq_zero hl
    subst hl'
    have : k = 0 := by simpa using hk
    subst this
    exact ⟨.nsl, by simp [op1, hx, hy, evO, bound], ⟨rfl, rfl⟩, .inl rfl⟩
  · obtain ⟨hl, _⟩ := hv
    have hl' : l = [] := List.eq_nil_of_length_eq_zero hl
    subst hl'
    have : k = 0 := by simpa using hk
    subst this
    exact ⟨.esl, by simp [op1, hx, hy, evO, bound], ⟨rfl, rfl⟩, .inr (.inl rfl)⟩
  · obtain ⟨rfl, hsh⟩ := hv
    obtain ⟨L, hg, hle, hfl⟩ := shown_spec hsh
    have hz : zIs h b 1 = true := by simp [zIs, hg]
    by_cases h0 : 0 < l.length
    · refine ⟨.sl b o k 0, ?_, ⟨hkt.symm, ?_⟩, .inr (.inr ⟨_, _, _, rfl⟩)⟩
      · simp [op1, hx, hy, evO, bound, hz, hk, h0]
      · rw [hkt, shown_mk hg (by omega), ints_take, hfl, List.take_take]
        congr 2
        omega
    · have hl' : l = [] := List.eq_nil_of_length_eq_zero (by omega)
      subst hl'
      have : k = 0 := by simpa using hk
      subst this
      exact ⟨.esl, by simp [op1, hx, hy, evO, bound, hz], ⟨rfl, rfl⟩, .inr (.inl rfl)⟩

/-- The last ranges of a slice. -/
theorem sl_sufJ {v : V} {l : List Int} {k : Nat} {x y : A} (hv : SlJ h v l) (hs : Shape v) (hk : k ≤ l.length) (hx : x.ev e = some v) (hy : y.ev e = some (.int .i64 (k : Int))) :
    ∃ u, op1 ro e h (.slSl 1 x (some y) none none) = some (u, h) ∧ SlJ h u (l.drop k) ∧ Shape u := by
  have hkt : (l.drop k).length = l.length - k := by simp
  rcases hs with rfl | rfl | ⟨b, o, n, rfl⟩
  · obtain ⟨hl, _⟩ := hv
    have hl' : l = [] := List.eq_nil_of_length_eq_zero hl
    subst hl'
    have : k = 0 := by simpa using hk
    subst this
    exact ⟨.nsl, by simp [op1, hx, hy, evO, bound], ⟨rfl, rfl⟩, .inl rfl⟩
  · obtain ⟨hl, _⟩ := hv
    have hl' : l = [] := List.eq_nil_of_length_eq_zero hl
    subst hl'
    have : k = 0 := by simpa using hk
    subst this
    exact ⟨.esl, by simp [op1, hx, hy, evO, bound], ⟨rfl, rfl⟩, .inr (.inl rfl)⟩
  · obtain ⟨rfl, hsh⟩ := hv
    obtain ⟨L, hg, hle, hfl⟩ := shown_spec hsh
    have hz : zIs h b 1 = true := by simp [zIs, hg]
    by_cases h0 : k < l.length
    · refine ⟨.sl b (o + k * 1) (l.length - k) 0, ?_, ⟨hkt.symm, ?_⟩, .inr (.inr ⟨_, _, _, rfl⟩)⟩
      · simp [op1, hx, hy, evO, bound, hz, hk, h0]
      · rw [hkt, shown_mk hg (by omega), ints_drop, hfl, List.drop_take, List.drop_drop]
        congr 2
        omega
    · have hkl : k = l.length := by omega
      subst hkl
      refine ⟨.esl, ?_, by rw [List.drop_length]; exact ⟨rfl, rfl⟩, .inr (.inl rfl)⟩
      simp [op1, hx, hy, evO, bound, hz]

/-- append, whatever the slice that is appended. -/
theorem op1_appJ {s x : A} {v y v' : V} {t : List Int} {h' : Hp} (hs : s.ev e = some v) (hx : x.ev e = some y) (hy : SlJ h y t) (ha : app ro h 1 8 v t.length (intsV .i64 t) = some (v', h')) : op1 ro e h (.app 1 8 s x) = some (v', h') := by
  cases y <;> simp only [SlJ, Sl] at hy
  · obtain ⟨rfl, hsh⟩ := hy
    exact op1_app hs hx hsh (ints_one t) ha
  · obtain ⟨hl, _⟩ := hy
    have hl' : t = [] := List.eq_nil_of_length_eq_zero hl
    subst hl'
    simpa [op1, hs, hx, intsV] using ha
  · obtain ⟨hl, _⟩ := hy
    have hl' : t = [] := List.eq_nil_of_length_eq_zero hl
    subst hl'
    simpa [op1, hs, hx, intsV] using ha

theorem OB_preJ {v : V} {l : List Int} {k : Nat} {x y : A} {Q : V × Hp → Prop} (hv : SlJ h v l) (hs : Shape v) (hk : k ≤ l.length) (hx : x.ev e = some v) (hy : y.ev e = some (.int .i64 (k : Int)))
    (H : ∀ u, SlJ h u (l.take k) → Shape u → Q (u, h)) : OB (op1 ro e h (.slSl 1 x none (some y) none)) Q := by
  obtain ⟨u, h1, h2, h3⟩ := sl_preJ (ro := ro) hv hs hk hx hy
  rw [h1, OB_some]
  exact H u h2 h3
theorem OB_sufJ {v : V} {l : List Int} {k : Nat} {x y : A} {Q : V × Hp → Prop} (hv : SlJ h v l) (hs : Shape v) (hk : k ≤ l.length) (hx : x.ev e = some v) (hy : y.ev e = some (.int .i64 (k : Int)))
    (H : ∀ u, SlJ h u (l.drop k) → Shape u → Q (u, h)) : OB (op1 ro e h (.slSl 1 x (some y) none none)) Q := by
  obtain ⟨u, h1, h2, h3⟩ := sl_sufJ (ro := ro) hv hs hk hx hy
  rw [h1, OB_some]
  exact H u h2 h3
theorem OB_appJ {s x : A} {v y v' : V} {t : List Int} {h' : Hp} {Q : V × Hp → Prop} (hs : s.ev e = some v) (hx : x.ev e = some y) (hy : SlJ h y t) (ha : app ro h 1 8 v t.length (intsV .i64 t) = some (v', h')) (H : Q (v', h')) : OB (op1 ro e h (.app 1 8 s x)) Q := by
  rw [op1_appJ hs hx hy ha, OB_some]
  exact H

/-- What is appended to: a row of one's own, or the empty row. -/
def NxJ (lo : Nat) (v : V) (t : List Int) : Prop := Own lo v ∨ ∃ b, v = .sl b 0 0 1 ∧ t = []

theorem app_baseJ {h0 h2 : Hp} {b : Nat} {t : List Int} (hf : Fr h0 h2) (hs : shown h2 1 b 0 0 = some []) (ht : t.length ≤ 1000000) :
    ∃ v' h', app ro h2 1 8 (.sl b 0 0 1) t.length (intsV .i64 t) = some (v', h') ∧ SlJ h' v' t ∧ NxJ h0.nx v' t ∧ Fr h0 h' := by
  by_cases h0' : t.length = 0
  · have ht' : t = [] := List.eq_nil_of_length_eq_zero h0'
    subst ht'
    exact ⟨.sl b 0 0 1, h2, by simp [app], ⟨rfl, hs⟩, .inr ⟨b, rfl, rfl⟩, hf⟩
  · refine ⟨.sl h2.nx 0 t.length 0, h2.new (.cells 1 (intsV .i64 t)), ?_, Sl.ofNew (ints_len t), .inl (.inr ⟨_, _, _, rfl, hf.nx⟩), hf.new _⟩
    simp only [app]
    rw [if_neg h0', if_pos (by unfold roomMax; omega), if_neg (by omega), if_neg (by omega), hs]
    simp

theorem app_oneJ {h0 h2 : Hp} {t : List Int} {p : Int} {vn : V} (hw0 : ∀ b x, h0.get b = some x → b < h0.nx) (hro : ro ≤ h0.nx) (hf : Fr h0 h2) (hv : SlJ h2 vn t) (hN : NxJ h0.nx vn t) (ht : t.length ≤ 1000000) :
    ∃ v' h', app ro (h2.new (.cells 1 [V.int .i64 p])) 1 8 vn 1 [V.int .i64 p] = some (v', h') ∧ SlJ h' v' (t ++ [p]) ∧ Own h0.nx v' ∧ Fr h0 h' := by
  rcases hN with ho | ⟨b, rfl, rfl⟩
  · obtain ⟨v', h', h1, h2, h3, h4, _⟩ := app_intJ (x := p) hw0 hro hf hv ho ht
    exact ⟨v', h', h1, h2, h3, h4⟩
  · have hs := shown_fr ((Fr.refl hf.wf).new (.cells 1 [V.int .i64 p])) hv.2
    obtain ⟨v', h', h1, h2, h3, h4⟩ := app_baseJ (ro := ro) (t := [p]) (hf.new (.cells 1 [V.int .i64 p])) hs (by simp)
    refine ⟨v', h', h1, h2, ?_, h4⟩
    rcases h3 with h3 | ⟨_, _, h3⟩
    · exact h3
    · cases h3

theorem app_manyJ {h0 h2 : Hp} {a t : List Int} {v : V} (hw0 : ∀ b x, h0.get b = some x → b < h0.nx) (hro : ro ≤ h0.nx) (hf : Fr h0 h2) (hv : SlJ h2 v a) (ho : Own h0.nx v) (hl : a.length + t.length ≤ 1000000) :
    ∃ v' h', app ro h2 1 8 v t.length (intsV .i64 t) = some (v', h') ∧ SlJ h' v' (a ++ t) ∧ Own h0.nx v' ∧ Fr h0 h' := by
  by_cases h0' : t.length = 0
  · have ht' : t = [] := List.eq_nil_of_length_eq_zero h0'
    subst ht'
    rw [List.append_nil]
    refine ⟨v, h2, ?_, hv, ho, hf⟩
    rcases ho with rfl | ⟨b, o, n, rfl, _⟩
    · simp [app]
    · simp [app]
  · obtain ⟨v', h', h1, h2, h3, h4⟩ := app_sl (bytes := 8) (m := t.length) (news := intsV .i64 t) hf hw0 hro hv ho (by omega) (ints_len t) (by unfold roomMax; omega) (by unfold roomMax; omega)
    refine ⟨v', h', h1, ?_, h3, h4⟩
    unfold SlJ
    rw [ints_append, List.length_append]
    exact h2


theorem tw_splitI {a : Int} : ∀ (s : List Int) (k : Nat), k ≤ s.length → (∀ p ∈ s.take k, p < a) → (∀ p, s[k]? = some p → ¬ p < a) →
    s.take k = s.takeWhile (fun p => decide (p < a)) ∧ s.drop k = s.dropWhile (fun p => decide (p < a))
  | [], k, _, _, _ => by simp
  | q :: s, 0, _, _, h2 => by
    have := h2 q rfl
    simp [this]
  | q :: s, k + 1, hk, h1, h2 => by
    have hq := h1 q (by simp)
    obtain ⟨g1, g2⟩ := tw_splitI s k (by simp at hk; omega) (fun p hp => h1 p (by simp [hp])) (fun p hp => h2 p (by simpa using hp))
    simp [hq, g1, g2]

theorem ev53 {v : V} {l : List Int} {n : Int} {lo : Nat} (hf : fs 53 = some (.code F53)) (hv : SlJ h v l) (hown : Own lo v) (hlo : lo ≤ h.nx) (hw : ∀ b x, h.get b = some x → b < h.nx) (hro : ro ≤ h.nx) (hn : l.length ≤ 10000) {Q : V → Hp → Prop}
    (hq : ∀ x h', SlJ h' x (insI l n) → Own lo x → Fr h h' → Q x h') : Ev fs ro 53 [v, .int .i64 n] h Q := by
  have hlen := hv.lenV
  have hsh := Own.shape hown
  refine Ev_fn hf rfl rfl rfl rfl ?_
  refine WP_seq ?_
  refine WP_reg ?_
  repeat (first | (refine WPO_op rfl ?_; simp) | (refine WPO_nil ?_; simp))
  refine WP_seq ?_
  refine WP_reg ?_
  repeat (first | (refine WPO_op rfl ?_; simp) | (refine WPO_nil ?_; simp))
  refine WP_mid (fun e' h' => h = h' ∧ ∃ k, k ≤ l.length ∧ l.take k = l.takeWhile (fun p => decide (p < n)) ∧ l.drop k = l.dropWhile (fun p => decide (p < n)) ∧ e'.get 0 = some v ∧ e'.get 1 = some (.int .i64 n) ∧ e'.get 5 = some (.int .i64 (k : Nat))) ?_ ?_
  · refine WP_block ?_
    refine WP_loop (fun m e h2 => ∃ k, m = l.length - k ∧ k ≤ l.length ∧ (∀ p ∈ l.take k, p < n) ∧ h = h2 ∧ e = [(0, v), (1, .int .i64 n), (5, .int .i64 (k : Nat))]) l.length ⟨0, by omega, by omega, fun p hp => by simp at hp, rfl, rfl⟩ ?_
    rintro m e h2 ⟨k, rfl, hk, hlt, rfl, rfl⟩
    refine WP_seq ?_
    refine WP_mid (fun e2 h2 => h = h2 ∧ e2 = [(0, v), (1, .int .i64 n), (5, .int .i64 (k : Nat)), (18, .bool (match l[k]? with | some p => decide (p < n) | none => false))]) ?_ ?_
    · refine WP_reg ?_
      by_cases c1 : k < l.length
      · obtain ⟨b2, o2, c2, L2, rfl, hg2, w1⟩ := SlJ.at hv c1
        have hsk : l[k]? = some l[k] := List.getElem?_eq_getElem c1
        rw [hsk]
        repeat (first | (refine WPO_op rfl ?_; simp [c1, loadV_ptr hg2, w1]; done) | (refine WPO_op rfl ?_; simp [c1, loadV_ptr hg2, w1]) | (refine WPO_gop rfl ?_; simp [c1, loadV_ptr hg2, w1]) | (refine WPO_nil ?_; simp [c1]))
      · have hsk : l[k]? = none := List.getElem?_eq_none (by omega)
        rw [hsk]
        repeat (first | (refine WPO_op rfl ?_; simp [c1, hlen]; done) | (refine WPO_op rfl ?_; simp [c1, hlen]) | (refine WPO_gop rfl ?_; simp [c1]) | (refine WPO_nil ?_; simp [c1]))
    rintro e2 h2 ⟨rfl, rfl⟩
    refine WP_cond rfl ⟨fun ht => ?_, fun ht => ?_⟩
    · have hc1 : k < l.length := by
        rcases Nat.lt_or_ge k l.length with h3 | h3
        · exact h3
        · rw [List.getElem?_eq_none h3] at ht
          cases ht
      rw [List.getElem?_eq_getElem hc1] at ht
      have hlt2 : l[k] < n := by simpa using ht
      have hwr : IntKind.wrap .i64 ((k : Int) + 1) = ((k + 1 : Nat) : Int) := by rw [wrap_i64 (by omega) (by omega)]; omega
      simp only [WP_skip, nrmOr_nrm]
      refine WP_block ?_
      repeat (first | refine WP_reg ?_ | (refine WPO_op rfl ?_; simp) | (refine WPO_nil ?_; simp))
      refine ⟨l.length - (k + 1), by omega, k + 1, rfl, by omega, fun p hp => ?_, ?_⟩
      · rw [List.take_succ_eq_append_getElem hc1] at hp
        rcases List.mem_append.1 hp with hp | hp
        · exact hlt _ hp
        · simp at hp
          subst hp
          exact hlt2
      · rw [hwr]
    · simp only [WP_exit, nrmOr_exit, blkQ_exit, if_pos, nrmOr_nrm, blkQ_nrm]
      obtain ⟨g1, g2⟩ := tw_splitI (a := n) l k hk hlt (fun p hp => by
        rw [hp] at ht
        simpa using ht)
      exact ⟨trivial, k, hk, g1, g2, rfl, rfl, rfl⟩
  rintro e1 h1 ⟨rfl, k, hk, t1, t2, e0, e1', e5⟩
  have hhead : (l.dropWhile fun x => decide (x < n)).head? = l[k]? := by rw [← t2, List.head?_drop]
  have hins : insI l n = if l[k]? = some n then l else l.take k ++ n :: l.drop k := by unfold insI; rw [hhead, t1, t2]
  refine WP_seq ?_
  refine WP_mid (fun e2 h2 => h = h2 ∧ e2 = [(0, v), (1, .int .i64 n), (5, .int .i64 (k : Nat)), (32, .bool (decide (l[k]? = some n)))]) ?_ ?_
  · refine WP_reg ?_
    by_cases c1 : k < l.length
    · obtain ⟨b2, o2, c2, L2, rfl, hg2, w1⟩ := SlJ.at hv c1
      have hsk : l[k]? = some l[k] := List.getElem?_eq_getElem c1
      rw [hsk]
      repeat (first | (refine WPO_op rfl ?_; simp [e0, e1', e5, c1, loadV_ptr hg2, w1]; done) | (refine WPO_op rfl ?_; simp [e0, e1', e5, c1, loadV_ptr hg2, w1]) | (refine WPO_gop rfl ?_; simp [e0, e1', e5, c1, loadV_ptr hg2, w1]) | (refine WPO_nil ?_; simp [e0, e1', e5, c1]))
      all_goals (by_cases hx : l[k] = n <;> simp [hx])
    · have hsk : l[k]? = none := List.getElem?_eq_none (by omega)
      rw [hsk]
      repeat (first | (refine WPO_op rfl ?_; simp [e0, e1', e5, c1, hlen]; done) | (refine WPO_op rfl ?_; simp [e0, e1', e5, c1, hlen]) | (refine WPO_gop rfl ?_; simp [c1]) | (refine WPO_nil ?_; simp [e0, e1', e5, c1]))
  rintro e2 h2 ⟨rfl, rfl⟩
  refine WP_cond rfl ⟨fun hd => ?_, fun hd => ?_⟩
  · have hx : l[k]? = some n := by simpa using hd
    rw [if_pos hx] at hins
    repeat (first | refine WP_seq ?_ | refine WP_reg ?_ | (refine WPO_op rfl ?_; simp) | (refine WPO_nil ?_; simp))
    simp [WP_ret, F53]
    exact hq v h (by rw [hins]; exact hv) hown (Fr.refl hw)
  have hx : ¬ l[k]? = some n := by simpa using hd
  rw [if_neg hx] at hins
  simp only [WP_skip, nrmOr_nrm]
  have htk : (l.take k).length ≤ 10000 := by simp; omega
  refine WP_seq ?_
  refine WP_reg ?_
  refine WPO_op rfl ?_
  simp [evParts, zeros, fill]
  have hfA : Fr h (h.new (.cells 1 [])) := (Fr.refl hw).new _
  have hsn : shown (h.new (.cells 1 [])) 1 h.nx 0 0 = some [] := (Sl.ofNew (h := h) (sz := 1) (n := 0) (c := 1) (l := []) rfl).2
  generalize (h.new (.cells 1 [])) = hA at *
  have hvA : SlJ hA v l := Sl.fr hfA hv
  refine WPO_op rfl ?_
  simp
  refine WPO_op rfl ?_
  simp
  refine WPO_op rfl ?_
  refine OB_preJ hvA hsh hk (by simp) (by simp) fun u hu hsu => ?_
  simp
  obtain ⟨vn, hB, ha1, hvn, hNx, hfB⟩ := app_baseJ (ro := ro) hfA hsn (t := l.take k) (by omega)
  refine WPO_op rfl ?_
  refine OB_appJ (v := .sl h.nx 0 0 1) (by simp) (by simp) hu ha1 ?_
  simp
  refine WPO_op rfl ?_
  simp
  refine WPO_nil ?_
  simp
  refine WP_seq ?_
  refine WP_reg ?_
  refine WPO_op rfl ?_
  simp
  refine WPO_op rfl ?_
  simp
  refine WPO_op rfl ?_
  simp [evParts, zeros, fill, V.cells, setN]
  obtain ⟨vn2, hC, ha2, hvn2, hon2, hfC⟩ := app_oneJ (ro := ro) (p := n) hw hro hfB hvn hNx (by omega)
  refine WPO_op rfl ?_
  refine OB_appJ (v := vn) (y := .sl hB.nx 0 1 2) (t := [n]) rfl rfl (Sl.ofNew (h := hB) (sz := 1) (n := 1) (c := 2) (l := [V.int .i64 n]) rfl) ha2 ?_
  simp
  refine WPO_op rfl ?_
  simp
  refine WPO_nil ?_
  simp
  have hvC : SlJ hC v l := Sl.fr hfC hv
  refine WP_seq ?_
  refine WP_reg ?_
  refine WPO_op rfl ?_
  simp
  refine WPO_op rfl ?_
  simp
  refine WPO_op rfl ?_
  simp
  refine WPO_op rfl ?_
  refine OB_sufJ hvC hsh hk rfl rfl fun u2 hu2 hsu2 => ?_
  simp
  obtain ⟨v', hD, ha3, hv', ho', hfD⟩ := app_manyJ (ro := ro) (t := l.drop k) hw hro hfC hvn2 hon2 (by simp; omega)
  refine WPO_op rfl ?_
  refine OB_appJ (v := vn2) rfl rfl hu2 ha3 ?_
  simp
  refine WPO_op rfl ?_
  simp
  refine WPO_nil ?_
  simp
  simp [WP_ret, F53]
  refine hq v' hD ?_ (ho'.mono hlo) hfD
  rw [hins]
  rw [List.append_assoc] at hv'
  exact hv'
end Go.Am.S7
/- The reference's cuts and Combine, stepped through. -/
namespace Go.Am.S7
open Go
set_option maxRecDepth 100000
set_option linter.unusedSimpArgs false
set_option linter.unusedVariables false
variable {fs : Nat → Option D} {ro : Nat} {h : Hp} {e : Env}

theorem aftJ1 {h h2 : Hp} {x : V} {l : List Int} {lo : Nat} (hw : ∀ b x, h.get b = some x → b < h.nx) (hs : SlJ h2 x l) (ho : Own lo x) (hf : Fr h h2) :
    SlJ (if ground x = true then h else h2) x l ∧ Fr h (if ground x = true then h else h2) := by
  rcases ho with rfl | ⟨b, o, n, rfl, hb⟩
  · have hl := List.eq_nil_of_length_eq_zero hs.1
    rw [hl]
    exact ⟨⟨rfl, rfl⟩, Fr.refl hw⟩
  · exact ⟨hs, hf⟩

theorem ends_snoc (l : List Rg) (p : Rg) : ends (l ++ [p]) = ends l ++ [p.1, p.2] := by rw [ends_append]; rfl

set_option maxHeartbeats 1000000 in
theorem ev36 {v w : V} {a b : List Rg} (hf : fs 36 = some (.code F36)) (hf53 : fs 53 = some (.code F53)) (hv : SlG h v a) (hw' : SlG h w b) (hna : a.length ≤ 1000) (hnb : b.length ≤ 1000) (hw : ∀ b x, h.get b = some x → b < h.nx) (hro : ro ≤ h.nx) {Q : V → Hp → Prop}
    (hq : ∀ x h', SlJ h' x (cutsL a b) → Own h.nx x → Fr h h' → Q x h') : Ev fs ro 36 [v, w] h Q := by
  have hlv := hv.lenV
  have hlw := hw'.lenV
  refine Ev_fn hf rfl rfl rfl rfl ?_
  refine WP_seq ?_
  refine WP_reg ?_
  repeat (first | (refine WPO_op rfl ?_; simp) | (refine WPO_nil ?_; simp))
  refine WP_seq ?_
  refine WP_reg ?_
  repeat (first | (refine WPO_op rfl ?_; simp) | (refine WPO_nil ?_; simp))
  have hl1 : ∀ i, ((ends (a.take i)).foldl insI []).length ≤ 2000 := fun i => by
    have := (insIs_spec (es := ends (a.take i)) (l := []) List.Pairwise.nil).2.2
    rw [ends_len] at this
    simp at this
    omega
  have hA := (insIs_spec (es := ends a) (l := []) List.Pairwise.nil)
  have hl2 : ∀ i, ((ends (b.take i)).foldl insI ((ends a).foldl insI [])).length ≤ 4000 := fun i => by
    have := (insIs_spec (es := ends (b.take i)) hA.1).2.2
    have h2 := hA.2.2
    rw [ends_len] at this h2
    simp at this h2
    omega
  refine WP_mid (fun e' h' => ∃ vo, SlJ h' vo ((ends a).foldl insI []) ∧ Own h.nx vo ∧ Fr h h' ∧ e'.get 1 = some w ∧ e'.get 5 = some vo) ?_ ?_
  · refine WP_seq ?_
    refine WP_reg ?_
    repeat (first | (refine WPO_op rfl ?_; simp) | (refine WPO_nil ?_; simp))
    refine WP_block ?_
    refine WP_loop (fun m e h1 => ∃ i vo, m = a.length - i ∧ i ≤ a.length ∧ SlJ h1 vo ((ends (a.take i)).foldl insI []) ∧ Own h.nx vo ∧ Fr h h1 ∧ e = [(0, v), (1, w), (5, vo), (6, .int .i64 (i : Nat))]) a.length ⟨0, .nsl, by omega, by omega, ⟨by simp [ends], by simp [ends, intsV]⟩, .inl rfl, Fr.refl hw, rfl⟩ ?_
    rintro m e h1 ⟨i, vo, rfl, hi, hvo, hown, hfr, rfl⟩
    refine WP_seq ?_
    refine WP_seq ?_
    refine WP_reg ?_
    repeat (first | (refine WPO_op rfl ?_; simp [hlv]) | (refine WPO_nil ?_; simp))
    refine WP_cond rfl ⟨fun ht => ?_, fun ht => ?_⟩
    · have hi' : i < a.length := by simpa using ht
      have hcur := hl1 i
      have hsn : (ends (a.take (i + 1))).foldl insI [] = insI (insI ((ends (a.take i)).foldl insI []) a[i].1) a[i].2 := by
        rw [List.take_succ_eq_append_getElem hi', ends_snoc, List.foldl_append]
        rfl
      obtain ⟨b0, o0, c0, L, rfl, hg, q1, q2⟩ := SlG.at (h := h1) (l := a) (Sl.fr hfr hv) (List.getElem?_eq_getElem hi')
      have hwr : IntKind.wrap .i64 ((i : Int) + 1) = ((i + 1 : Nat) : Int) := by rw [wrap_i64 (by omega) (by omega)]; omega
      have hlen1 : (insI ((ends (a.take i)).foldl insI []) a[i].1).length ≤ 2001 := by
        have := (insI_spec (n := a[i].1) (insIs_spec (es := ends (a.take i)) (l := []) List.Pairwise.nil).1).2.2
        omega
      simp only [WP_skip, nrmOr_nrm]
      refine WP_seq ?_
      refine WP_block ?_
      refine WP_reg ?_
      repeat (first | (refine WPO_op rfl ?_; simp [hi', loadV_ptr hg, q1, q2]; done) | (refine WPO_op rfl ?_; simp [hi', loadV_ptr hg, q1, q2]))
      refine WPO_call (g := 53) (a := []) (b := []) (args := [vo, .int .i64 a[i].1]) rfl rfl ?_
      simp
      refine ev53 hf53 hvo hown hfr.nx hfr.wf (Nat.le_refl _) (by omega) fun x h2 hsx hox hfx => ?_
      obtain ⟨hsX, hfX⟩ := aftJ1 hfr.wf hsx hox hfx
      generalize (if ground x = true then h1 else h2) = hX at *
      refine WPO_call (g := 53) (a := []) (b := []) (args := [x, .int .i64 a[i].2]) rfl rfl ?_
      simp
      refine ev53 hf53 hsX hox (Nat.le_trans hfr.nx hfX.nx) hfX.wf (Nat.le_refl _) (by omega) fun y h3 hsy hoy hfy => ?_
      obtain ⟨hsY, hfY⟩ := aftJ1 hfX.wf hsy hoy hfy
      generalize (if ground y = true then hX else h3) = hY at *
      refine WPO_op rfl ?_
      simp
      refine WPO_nil ?_
      simp
      repeat (first | refine WP_reg ?_ | (refine WPO_op rfl ?_; simp; done) | (refine WPO_op rfl ?_; simp) | (refine WPO_nil ?_; simp))
      refine ⟨a.length - (i + 1), by omega, i + 1, rfl, by omega, y, ?_, hoy, (hfr.trans hfX).trans hfY, rfl, ?_⟩
      · rw [hsn]; exact hsY
      · rw [hwr]
    · have hi' : i = a.length := by
        have : ¬ (i < a.length) := by simpa using ht
        omega
      subst hi'
      rw [List.take_length] at hvo
      simp only [WP_exit, nrmOr_exit, blkQ_exit, if_pos, nrmOr_nrm, blkQ_nrm]
      exact ⟨vo, hvo, hown, hfr, rfl, rfl⟩
  rintro e1 hP ⟨vp, hvp, hop, hfP, e1', e5⟩
  refine WP_mid (fun e' h' => ∃ vo, SlJ h' vo (cutsL a b) ∧ Own h.nx vo ∧ Fr h h' ∧ e'.get 5 = some vo) ?_ ?_
  · refine WP_seq ?_
    refine WP_reg ?_
    repeat (first | (refine WPO_op rfl ?_; simp) | (refine WPO_nil ?_; simp [e1', e5]))
    refine WP_block ?_
    refine WP_loop (fun m e h1 => ∃ i vo, m = b.length - i ∧ i ≤ b.length ∧ SlJ h1 vo ((ends (b.take i)).foldl insI ((ends a).foldl insI [])) ∧ Own h.nx vo ∧ Fr h h1 ∧ e = [(1, w), (5, vo), (7, .int .i64 (i : Nat))]) b.length ⟨0, vp, by omega, by omega, by simpa [ends] using hvp, hop, hfP, rfl⟩ ?_
    rintro m e h1 ⟨i, vo, rfl, hi, hvo, hown, hfr, rfl⟩
    refine WP_seq ?_
    refine WP_seq ?_
    refine WP_reg ?_
    repeat (first | (refine WPO_op rfl ?_; simp [hlw]) | (refine WPO_nil ?_; simp))
    refine WP_cond rfl ⟨fun ht => ?_, fun ht => ?_⟩
    · have hi' : i < b.length := by simpa using ht
      have hcur := hl2 i
      have hsn : (ends (b.take (i + 1))).foldl insI ((ends a).foldl insI []) = insI (insI ((ends (b.take i)).foldl insI ((ends a).foldl insI [])) b[i].1) b[i].2 := by
        rw [List.take_succ_eq_append_getElem hi', ends_snoc, List.foldl_append]
        rfl
      obtain ⟨b0, o0, c0, L, rfl, hg, q1, q2⟩ := SlG.at (h := h1) (l := b) (Sl.fr hfr hw') (List.getElem?_eq_getElem hi')
      have hwr : IntKind.wrap .i64 ((i : Int) + 1) = ((i + 1 : Nat) : Int) := by rw [wrap_i64 (by omega) (by omega)]; omega
      have hlen1 : (insI ((ends (b.take i)).foldl insI ((ends a).foldl insI [])) b[i].1).length ≤ 4001 := by
        have := (insI_spec (n := b[i].1) (insIs_spec (es := ends (b.take i)) hA.1).1).2.2
        omega
      simp only [WP_skip, nrmOr_nrm]
      refine WP_seq ?_
      refine WP_block ?_
      refine WP_reg ?_
      repeat (first | (refine WPO_op rfl ?_; simp [hi', loadV_ptr hg, q1, q2]; done) | (refine WPO_op rfl ?_; simp [hi', loadV_ptr hg, q1, q2]))
      refine WPO_call (g := 53) (a := []) (b := []) (args := [vo, .int .i64 b[i].1]) rfl rfl ?_
      simp
      refine ev53 hf53 hvo hown hfr.nx hfr.wf (Nat.le_refl _) (by omega) fun x h2 hsx hox hfx => ?_
      obtain ⟨hsX, hfX⟩ := aftJ1 hfr.wf hsx hox hfx
      generalize (if ground x = true then h1 else h2) = hX at *
      refine WPO_call (g := 53) (a := []) (b := []) (args := [x, .int .i64 b[i].2]) rfl rfl ?_
      simp
      refine ev53 hf53 hsX hox (Nat.le_trans hfr.nx hfX.nx) hfX.wf (Nat.le_refl _) (by omega) fun y h3 hsy hoy hfy => ?_
      obtain ⟨hsY, hfY⟩ := aftJ1 hfX.wf hsy hoy hfy
      generalize (if ground y = true then hX else h3) = hY at *
      refine WPO_op rfl ?_
      simp
      refine WPO_nil ?_
      simp
      repeat (first | refine WP_reg ?_ | (refine WPO_op rfl ?_; simp; done) | (refine WPO_op rfl ?_; simp) | (refine WPO_nil ?_; simp))
      refine ⟨b.length - (i + 1), by omega, i + 1, rfl, by omega, y, ?_, hoy, (hfr.trans hfX).trans hfY, rfl, ?_⟩
      · rw [hsn]; exact hsY
      · rw [hwr]
    · have hi' : i = b.length := by
        have : ¬ (i < b.length) := by simpa using ht
        omega
      subst hi'
      rw [List.take_length] at hvo
      simp only [WP_exit, nrmOr_exit, blkQ_exit, if_pos, nrmOr_nrm, blkQ_nrm]
      exact ⟨vo, hvo, hown, hfr, rfl⟩
  rintro e2 hZ ⟨vo, hvo, hown, hfr, e5'⟩
  repeat (first | refine WP_seq ?_ | refine WP_reg ?_ | (refine WPO_op rfl ?_; simp [e5']) | (refine WPO_nil ?_; simp))
  simp [WP_ret, F36]
  exact hq vo hZ hvo hown hfr
end Go.Am.S7
/- The reference's Combine, stepped through. -/
namespace Go.Am.S7
open Go
set_option maxRecDepth 100000
set_option linter.unusedSimpArgs false
set_option linter.unusedVariables false
variable {fs : Nat → Option D} {ro : Nat} {h : Hp} {e : Env}

@[simp] theorem wantV_undone3 {w : Bool} : wantV w (.tup []) = some false := rfl

def kf (k : Int) (x y : Bool) : Bool := if k = 0 then x || y else if k = 1 then x && !y else x && y
theorem kf_ff (k : Int) : kf k false false = false := by simp [kf]

theorem segs_snoc (f : Bool → Bool → Bool) (a b : List Rg) : ∀ (c : List Int) (p q : Int), segs f a b (c ++ [p] ++ [q]) = segs f a b (c ++ [p]) ++ (if f (inS a p) (inS b p) = true then [(p, q)] else [])
  | [], p, q => by simp [segs]
  | [x], p, q => by simp [segs]
  | x :: y :: c, p, q => by
    have := segs_snoc f a b (y :: c) p q
    simp only [List.cons_append] at this ⊢
    simp only [segs]
    rw [this, List.append_assoc]

theorem segs_take (f : Bool → Bool → Bool) (a b : List Rg) {c : List Int} {i : Nat} (hi : i + 1 < c.length) : segs f a b (c.take (i + 1 + 1)) = segs f a b (c.take (i + 1)) ++ (if f (inS a c[i]) (inS b c[i]) = true then [(c[i], c[i + 1])] else []) := by
  rw [List.take_succ_eq_append_getElem hi, List.take_succ_eq_append_getElem (by omega : i < c.length)]
  exact segs_snoc f a b _ _ _

theorem inS_hasP (a : List Rg) (x : Int) : a.any (hasP x) = inS a x := rfl

set_option maxHeartbeats 4000000 in
theorem ev18 {v w : V} {a b : List Rg} {k : Int} (hk : k = 0 ∨ k = 1 ∨ k = 2) (hf : fs 18 = some (.code F18)) (hf36 : fs 36 = some (.code F36)) (hf53 : fs 53 = some (.code F53)) (hf15 : fs 15 = some (.code F15)) (hf37 : fs 37 = some (.code F37)) (hv : SlG h v a) (hw' : SlG h w b) (hna : a.length ≤ 200) (hnb : b.length ≤ 200)
    (hw : ∀ b x, h.get b = some x → b < h.nx) (hro : ro ≤ h.nx) {Q : V → Hp → Prop} (hq : ∀ x h', SlG h' x (combL (kf k) a b) → Own h.nx x → Fr h h' → Q (.tup [x, .bool true]) h') : Ev fs ro 18 [.int .i64 k, v, w] h Q := by
  refine Ev_fn hf rfl rfl rfl rfl ?_
  refine WP_seq ?_
  refine WP_reg ?_
  repeat (first | (refine WPO_op rfl ?_; simp) | (refine WPO_nil ?_; simp))
  refine WP_seq ?_
  refine WP_reg ?_
  refine WPO_op rfl ?_
  simp
  refine WPO_op rfl ?_
  simp
  refine WPO_call (g := 36) (a := []) (b := []) (args := [v, w]) rfl rfl ?_
  simp
  refine ev36 hf36 hf53 hv hw' (by omega) (by omega) hw (Nat.le_refl _) fun c h1 hsc hoc hfc => ?_
  obtain ⟨hsC, hfC⟩ := aftJ1 hw hsc hoc hfc
  generalize (if ground c = true then h else h1) = hC at *
  have hcl := (cutsL_spec a b).2.2
  have hcs := (cutsL_spec a b).1
  have hcomb := combL_canon (kf k) a b
  generalize cutsL a b = cl at *
  have hlc := hsC.lenV
  refine WPO_op rfl ?_
  simp
  refine WPO_nil ?_
  simp
  refine WP_mid (fun e' h' => ∃ vo, SlG h' vo (segs (kf k) a b cl) ∧ Own hC.nx vo ∧ Fr hC h' ∧ e'.get 6 = some vo) ?_ ?_
  · refine WP_seq ?_
    refine WP_reg ?_
    refine WPO_op rfl ?_
    simp
    refine WPO_nil ?_
    simp
    refine WP_block ?_
    refine WP_loop (fun m e h1 => ∃ i vo, m = cl.length + 1 - i ∧ i ≤ cl.length ∧ SlG h1 vo (segs (kf k) a b (cl.take (i + 1))) ∧ Own hC.nx vo ∧ Fr hC h1 ∧ e = [(0, .int .i64 k), (1, v), (2, w), (6, vo), (8, c), (9, .int .i64 ((i + 1 : Nat) : Int))]) (cl.length + 1) ⟨0, .nsl, by omega, by omega, ?_, .inl rfl, Fr.refl hfC.wf, by simp⟩ ?_
    · have : segs (kf k) a b (cl.take (0 + 1)) = [] := by cases cl <;> simp [segs]
      rw [this]
      exact ⟨rfl, rfl⟩
    rintro m e h1 ⟨i, vo, rfl, hi, hvo, hown, hfr, rfl⟩
    refine WP_seq ?_
    refine WP_seq ?_
    refine WP_reg ?_
    repeat (first | (refine WPO_op rfl ?_; simp [hlc]; done) | (refine WPO_op rfl ?_; simp [hlc]) | (refine WPO_nil ?_; simp))
    refine WP_cond rfl ⟨fun ht => ?_, fun ht => ?_⟩
    · have hi' : i + 1 < cl.length := by
        have : (i : Int) + 1 < cl.length := by simpa using ht
        omega
      have hi0 : i < cl.length := by omega
      have hst := segs_take (kf k) a b hi'
      have hsl := segs_len (kf k) a b (cl.take (i + 1))
      simp only [List.length_take] at hsl
      obtain ⟨b0, o0, c0, L, rfl, hg, u1⟩ := SlJ.at (h := h1) (l := cl) (Sl.fr hfr hsC) hi'
      obtain ⟨b0', o0', c0', L', ee, hg', u0⟩ := SlJ.at (h := h1) (l := cl) (Sl.fr hfr hsC) hi0
      cases ee
      rw [hg] at hg'
      simp only [Option.some.injEq, Blk.cells.injEq, true_and] at hg'
      subst hg'
      have w1 : IntKind.wrap .i64 (i : Int) = i := wrap_i64 (by omega) (by omega)
      have w2 : IntKind.wrap .i64 ((i : Int) + 1 + 1) = ((i + 1 + 1 : Nat) : Int) := by rw [wrap_i64 (by omega) (by omega)]; omega
      have c1 : (i : Int) < (cl.length : Int) := by omega
      have c2 : (i : Int) + 1 < (cl.length : Int) := by omega
      have c3 : (0 : Int) ≤ (i : Int) + 1 := by omega
      have n1 : ((i : Int) + 1).toNat = i + 1 := by omega
      have u1' : L[o0 + (i + 1)]? = some (V.int .i64 cl[i + 1]) := u1
      generalize cl[i] = p at *
      generalize cl[i + 1] = q at *
      simp only [WP_skip, nrmOr_nrm]
      refine WP_mid (fun e' h' => ∃ vo', SlG h' vo' (segs (kf k) a b (cl.take (i + 1 + 1))) ∧ Own hC.nx vo' ∧ Fr hC h' ∧ e'.get 0 = some (.int .i64 k) ∧ e'.get 1 = some v ∧ e'.get 2 = some w ∧ e'.get 6 = some vo' ∧ e'.get 8 = some (.sl b0 o0 cl.length c0) ∧ e'.get 9 = some (.int .i64 ((i : Int) + 1))) ?_ ?_
      rotate_left
      · rintro e' h' ⟨vo', g1, g2, g3, e0, e1, e2, e6, e8, e9⟩
        repeat (first | refine WP_reg ?_ | (refine WPO_op rfl ?_; simp [e9]) | (refine WPO_nil ?_; simp [e0, e1, e2, e6, e8, e9]))
        refine ⟨cl.length + 1 - (i + 1), by omega, i + 1, rfl, by omega, vo', g1, g2, g3, rfl, ?_⟩
        rw [w2]
        simp
      refine WP_block ?_
      refine WP_seq ?_
      refine WP_reg ?_
      repeat (first | (refine WPO_op rfl ?_; simp [w1, c1, loadV_ptr hg, u0]; done) | (refine WPO_op rfl ?_; simp [w1, c1, loadV_ptr hg, u0]))
      refine WPO_call (g := 15) (a := []) (b := []) (args := [v, .int .i64 p]) rfl rfl ?_
      simp
      refine ev15 hf15 (Sl.fr (hfC.trans hfr) hv) (by omega) fun h5 => ?_
      simp
      repeat (first | (refine WPO_op rfl ?_; simp [w1, c1, loadV_ptr hg, u0]; done) | (refine WPO_op rfl ?_; simp [w1, c1, loadV_ptr hg, u0]))
      refine WPO_call (g := 15) (a := []) (b := []) (args := [w, .int .i64 p]) rfl rfl ?_
      simp
      refine ev15 hf15 (Sl.fr (hfC.trans hfr) hw') (by omega) fun h6 => ?_
      simp
      repeat (first | (refine WPO_op rfl ?_; simp; done) | (refine WPO_op rfl ?_; simp) | (refine WPO_nil ?_; simp))
      rw [inS_hasP, inS_hasP]
      generalize inS a p = xa at *
      generalize inS b p = xb at *
      refine WP_mid (fun e2 h' => h1 = h' ∧ e2 = [(0, .int .i64 k), (1, v), (2, w), (6, vo), (8, .sl b0 o0 cl.length c0), (9, .int .i64 ((i : Int) + 1)), (63, .bool (kf k xa xb))]) ?_ ?_
      · refine WP_reg ?_
        rcases hk with rfl | rfl | rfl <;> cases xa <;> cases xb <;>
          repeat (first | (refine WPO_op rfl ?_; simp; done) | (refine WPO_op rfl ?_; simp) | (refine WPO_gop rfl ?_; simp) | (refine WPO_nil ?_; simp [kf]))
      rintro e2 h' ⟨rfl, rfl⟩
      refine WP_cond rfl ⟨fun hd => ?_, fun hd => ?_⟩
      · have hd' : kf k xa xb = true := by simpa using hd
        rw [if_pos hd'] at hst
        obtain ⟨v', h', ha, hs, ho, hfa, hsh⟩ := app_range (ro := ro) (p := (p, q)) hfC.wf (by have := hfC.nx; omega) hfr hvo hown (by omega)
        refine WP_reg ?_
        repeat (first | (refine WPO_op rfl ?_; simp [w1, c1, c2, c3, n1, loadV_ptr hg, u0, u1']; done) | (refine WPO_op rfl ?_; simp [w1, c1, c2, c3, n1, loadV_ptr hg, u0, u1']))
        simp [evParts, fill, V.cells, setN]
        refine WPO_op rfl ?_
        simp [evParts, zeros, fill, V.cells, setN]
        refine WPO_op rfl ?_
        refine OB_appG (v := vo) (y := .sl h1.nx 0 1 2) (t := [(p, q)]) rfl rfl (Sl.ofNew (h := h1) (sz := 2) (n := 1) (c := 2) (l := [V.int .i64 p, V.int .i64 q]) rfl) ha ?_
        simp
        refine WPO_op rfl ?_
        simp
        refine WPO_nil ?_
        simp
        refine ⟨v', ?_, ho, hfa, rfl⟩
        rw [hst]
        exact hs
      · have hd' : ¬ (kf k xa xb = true) := by simpa using hd
        rw [if_neg hd', List.append_nil] at hst
        simp only [WP_skip, nrmOr_nrm, blkQ_nrm]
        refine ⟨vo, by rw [hst]; exact hvo, hown, hfr, rfl, rfl, rfl, rfl, rfl, rfl⟩
    · have hi' : cl.length ≤ i + 1 := by
        have : ¬ ((i : Int) + 1 < cl.length) := by simpa using ht
        omega
      rw [List.take_of_length_le hi'] at hvo
      simp only [WP_exit, nrmOr_exit, blkQ_exit, if_pos, nrmOr_nrm, blkQ_nrm]
      exact ⟨vo, hvo, hown, hfr, rfl⟩
  rintro e1 hZ ⟨vo, hvo, hown, hfr, e6⟩
  have hfZ := hfC.trans hfr
  have hsl := segs_len (kf k) a b cl
  refine WP_seq ?_
  refine WP_reg ?_
  refine WPO_op rfl ?_
  simp [e6]
  refine WPO_call (g := 37) (a := []) (b := []) (args := [vo]) rfl (by simp) ?_
  simp
  refine ev37 hf37 hvo (fun s hs => by have := (segs_from (kf k) a b cl hcs s hs).1; omega) hfr.wf (Nat.le_refl _) (by omega) fun x h2 hsx hox hfx => ?_
  obtain ⟨hsR, hfR⟩ := aft1 hfr.wf hsx hox hfx
  generalize (if ground x = true then hZ else h2) = hR at *
  have hlx := hsR.lenV
  have hcl2 := canon_le (segs (kf k) a b cl)
  rw [hcomb] at hsR hcl2 hlx
  refine WPO_op rfl ?_
  simp
  refine WPO_nil ?_
  simp
  have hle : ((combL (kf k) a b).length : Int) ≤ 1024 := by omega
  repeat (first | refine WP_seq ?_ | refine WP_reg ?_ | (refine WPO_op rfl ?_; simp [hlx, hle]; done) | (refine WPO_op rfl ?_; simp [hlx, hle]) | (refine WPO_nil ?_; simp))
  simp [WP_ret, F18, pack]
  exact hq x hR hsR (hox.mono (hfZ.nx)) (hfZ.trans hfR)
end Go.Am.S7
