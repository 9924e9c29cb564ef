/- Functions of ranges, stepped through at the great seat: the reference's Of, made. -/
import Derived.Test.YtochmoadmdmcbaaGreatDoorAmZ2
namespace Go.Am.SZ
set_option linter.unusedSimpArgs false
set_option linter.unusedVariables false
open Go Go.RowKit
set_option maxRecDepth 100000
variable {fs : Nat → Option D} {ro : Nat} {h : Hp} {e : Env}

theorem flat_take : ∀ (l : List Rg) (k : Nat), flat (l.take k) = (flat l).take (k * 2)
  | [], k => by simp [flat]
  | (a, b) :: r, 0 => by simp [flat]
  | (a, b) :: r, k + 1 => by
    rw [List.take_succ_cons, show (k + 1) * 2 = k * 2 + 2 by omega]
    simp [flat, flat_take r k]
theorem flat_drop : ∀ (l : List Rg) (k : Nat), flat (l.drop k) = (flat l).drop (k * 2)
  | [], k => by simp [flat]
  | (a, b) :: r, 0 => by simp
  | (a, b) :: r, k + 1 => by
    rw [List.drop_succ_cons, show (k + 1) * 2 = k * 2 + 2 by omega]
    simp [flat, flat_drop r k]

/-- The first ranges of a slice. -/
theorem sl_pre {v : V} {l : List Rg} {k : Nat} {x y : A} (hv : SlG h v l) (hs : Shape v) (hk : k ≤ l.length) (hx : x.ev e = some v) (hy : y.ev e = some (.int .i64 (k : Int))) :
    ∃ u, op1 ro e h (.slSl 2 x none (some y) none) = some (u, h) ∧ SlG h u (l.take k) ∧ Shape u := by
  have hkt : (l.take k).length = k := by simp; omega
  rcases hs with rfl | rfl | ⟨b, o, n, rfl⟩
  · obtain ⟨hl, _⟩ := hv
    have hl' : l = [] := List.eq_nil_of_length_eq_zero hl
    subst hl'
    have : k = 0 := by simpa using hk
    subst this
    exact ⟨.nsl, by simp [op1, hx, hy, evO, bound], ⟨rfl, rfl⟩, .inl rfl⟩
  · obtain ⟨hl, _⟩ := hv
    have hl' : l = [] := List.eq_nil_of_length_eq_zero hl
    subst hl'
    have : k = 0 := by simpa using hk
    subst this
    exact ⟨.esl, by simp [op1, hx, hy, evO, bound], ⟨rfl, rfl⟩, .inr (.inl rfl)⟩
  · obtain ⟨rfl, hsh⟩ := hv
    obtain ⟨L, hg, hle, hfl⟩ := shown_spec hsh
    have hz : zIs h b 2 = true := by simp [zIs, hg]
    by_cases h0 : 0 < l.length
    · refine ⟨.sl b o k 0, ?_, ⟨hkt.symm, ?_⟩, .inr (.inr ⟨_, _, _, rfl⟩)⟩
      · simp [op1, hx, hy, evO, bound, hz, hk, h0]
      · rw [hkt, shown_mk hg (by omega), flat_take, hfl, List.take_take]
        congr 2
        omega
    · have hl' : l = [] := List.eq_nil_of_length_eq_zero (by omega)
      subst hl'
      have : k = 0 := by simpa using hk
      subst this
      exact ⟨.esl, by simp [op1, hx, hy, evO, bound, hz], ⟨rfl, rfl⟩, .inr (.inl rfl)⟩

/-- The last ranges of a slice. -/
theorem sl_suf {v : V} {l : List Rg} {k : Nat} {x y : A} (hv : SlG h v l) (hs : Shape v) (hk : k ≤ l.length) (hx : x.ev e = some v) (hy : y.ev e = some (.int .i64 (k : Int))) :
    ∃ u, op1 ro e h (.slSl 2 x (some y) none none) = some (u, h) ∧ SlG h u (l.drop k) ∧ Shape u := by
  have hkt : (l.drop k).length = l.length - k := by simp
  rcases hs with rfl | rfl | ⟨b, o, n, rfl⟩
  · obtain ⟨hl, _⟩ := hv
    have hl' : l = [] := List.eq_nil_of_length_eq_zero hl
    subst hl'
    have : k = 0 := by simpa using hk
    subst this
    exact ⟨.nsl, by simp [op1, hx, hy, evO, bound], ⟨rfl, rfl⟩, .inl rfl⟩
  · obtain ⟨hl, _⟩ := hv
    have hl' : l = [] := List.eq_nil_of_length_eq_zero hl
    subst hl'
    have : k = 0 := by simpa using hk
    subst this
    exact ⟨.esl, by simp [op1, hx, hy, evO, bound], ⟨rfl, rfl⟩, .inr (.inl rfl)⟩
  · obtain ⟨rfl, hsh⟩ := hv
    obtain ⟨L, hg, hle, hfl⟩ := shown_spec hsh
    have hz : zIs h b 2 = true := by simp [zIs, hg]
    by_cases h0 : k < l.length
    · refine ⟨.sl b (o + k * 2) (l.length - k) 0, ?_, ⟨hkt.symm, ?_⟩, .inr (.inr ⟨_, _, _, rfl⟩)⟩
      · simp [op1, hx, hy, evO, bound, hz, hk, h0]
      · rw [hkt, shown_mk hg (by omega), flat_drop, hfl, List.drop_take, List.drop_drop]
        congr 2
        omega
    · have hkl : k = l.length := by omega
      subst hkl
      refine ⟨.esl, ?_, by rw [List.drop_length]; exact ⟨rfl, rfl⟩, .inr (.inl rfl)⟩
      simp [op1, hx, hy, evO, bound, hz]

/-- append, whatever the slice that is appended. -/
theorem op1_appG {s x : A} {v y v' : V} {t : List Rg} {h' : Hp} (hs : s.ev e = some v) (hx : x.ev e = some y) (hy : SlG h y t) (ha : app ro h 2 16 v t.length (flat t) = some (v', h')) : op1 ro e h (.app 2 16 s x) = some (v', h') := by
  cases y <;> simp only [SlG, Sl] at hy
  · obtain ⟨rfl, hsh⟩ := hy
    exact op1_app hs hx hsh (flat_one t) ha
  · obtain ⟨hl, _⟩ := hy
    have hl' : t = [] := List.eq_nil_of_length_eq_zero hl
    subst hl'
    simpa [op1, hs, hx, flat] using ha
  · obtain ⟨hl, _⟩ := hy
    have hl' : t = [] := List.eq_nil_of_length_eq_zero hl
    subst hl'
    simpa [op1, hs, hx, flat] using ha

theorem Own.shape {lo : Nat} {v : V} (ho : Own lo v) : Shape v := by
  rcases ho with rfl | ⟨b, o, n, rfl, _⟩
  · exact .inl rfl
  · exact .inr (.inr ⟨_, _, _, rfl⟩)

theorem ev32 {v : V} {l : List Rg} (hf : fs 28 = some (.code F28)) (hv : SlG h v l) (hw : ∀ b x, h.get b = some x → b < h.nx) (hro : ro ≤ h.nx) (hn : l.length ≤ 60) {Q : V → Hp → Prop}
    (hq : ∀ x h', SlG h' x l → Own h.nx x → Fr h h' → Q x h') : Ev fs ro 28 [v] h Q := by
  have hlen := hv.lenV
  refine Ev_fn hf rfl rfl rfl rfl ?_
  repeat (first | refine WP_seq ?_ | refine WP_reg ?_ | (refine WPO_op rfl ?_; simp) | (refine WPO_nil ?_; simp))
  refine WP_block ?_
  refine WP_loop (fun m e h1 => ∃ i vo, m = l.length - i ∧ i ≤ l.length ∧ SlG h1 vo (l.take i) ∧ Own h.nx vo ∧ Fr h h1 ∧ e = [(0, v), (3, vo), (4, .int .i64 (i : Nat))]) l.length ⟨0, .nsl, by simp, by omega, ⟨by simp, rfl⟩, .inl rfl, Fr.refl hw, rfl⟩ ?_
  rintro m e h1 ⟨i, vo, rfl, hi, hvo, hown, hfr, rfl⟩
  refine WP_seq ?_
  refine WP_mid (fun e2 h2 => h1 = h2 ∧ e2 = [(0, v), (3, vo), (4, .int .i64 (i : Nat)), (12, .bool (decide (i < l.length)))]) ?_ ?_
  · refine WP_reg ?_
    by_cases c1 : i < l.length
    · have c2 : (i : Int) < 60 := by omega
      repeat (first | (refine WPO_op rfl ?_; simp [hlen, c1, c2]; done) | (refine WPO_op rfl ?_; simp [hlen, c1, c2]) | (refine WPO_gop rfl ?_; simp [c1, c2]) | (refine WPO_nil ?_; simp [c1, c2]))
    · repeat (first | (refine WPO_op rfl ?_; simp [hlen, c1]; done) | (refine WPO_op rfl ?_; simp [hlen, c1]) | (refine WPO_gop rfl ?_; simp [c1]) | (refine WPO_nil ?_; simp [c1]))
  rintro e2 h2 ⟨rfl, rfl⟩
  refine WP_cond rfl ⟨fun ht => ?_, fun ht => ?_⟩
  · have hi' : i < l.length := by simpa using ht
    obtain ⟨b, o, c, L, rfl, hg, q1, q2⟩ := SlG.at (h := h1) (l := l) (Sl.fr hfr hv) (List.getElem?_eq_getElem hi')
    have hwr : IntKind.wrap .i64 ((i : Int) + 1) = ((i + 1 : Nat) : Int) := by rw [wrap_i64 (by omega) (by omega)]; omega
    simp only [WP_skip, nrmOr_nrm]
    refine WP_mid (fun e' h' => ∃ vo3, SlG h' vo3 (l.take (i + 1)) ∧ Own h.nx vo3 ∧ Fr h h' ∧ e' = [(0, .sl b o l.length c), (3, vo3), (4, .int .i64 (i : Nat))]) ?_ ?_
    · refine WP_block ?_
      refine WP_reg ?_
      have hi2 : (i : Int) < (l.length : Int) := by omega
      repeat (first | (refine WPO_op rfl ?_; simp [loadV_ptr hg, q1, q2, hi']; done) | (refine WPO_op rfl ?_; simp [loadV_ptr hg, q1, q2, hi']))
      simp [evParts, fill, V.cells, setN]
      refine WPO_op rfl ?_
      simp [evParts, zeros, fill, V.cells, setN]
      obtain ⟨v', h', ha, hs, ho, hfa, hsh⟩ := app_range (p := l[i]) hw hro hfr hvo hown (by simp; omega)
      refine WPO_op rfl ?_
      rw [op1_app (v := vo) (b := h1.nx) (o := 0) (m := 1) (c := 2) (h' := h') rfl rfl hsh rfl ha]
      simp
      refine WPO_op rfl ?_
      simp
      refine WPO_nil ?_
      simp
      rw [List.take_succ_eq_append_getElem hi']
      exact ⟨v', hs, ho, hfa, rfl⟩
    rintro e' h' ⟨vo3, g1, g2, g3, rfl⟩
    repeat (first | refine WP_reg ?_ | (refine WPO_op rfl ?_; simp) | (refine WPO_nil ?_; simp))
    refine ⟨l.length - (i + 1), by omega, i + 1, rfl, by omega, vo3, g1, g2, g3, rfl, ?_⟩
    rw [hwr]
  · have hi' : i = l.length := by
      have : ¬ (i < l.length) := by simpa using ht
      omega
    subst hi'
    rw [List.take_length] at hvo
    simp only [WP_exit, nrmOr_exit, blkQ_exit, if_pos, nrmOr_nrm, blkQ_nrm]
    repeat (first | refine WP_seq ?_ | refine WP_reg ?_ | (refine WPO_op rfl ?_; simp) | (refine WPO_nil ?_; simp))
    simp [WP_ret, F28]
    exact hq _ _ hvo hown hfr
open Go Go.RowKit
set_option maxRecDepth 100000
variable {fs : Nat → Option D} {ro : Nat} {h : Hp} {e : Env}

theorem OB_pre {v : V} {l : List Rg} {k : Nat} {x y : A} {Q : V × Hp → Prop} (hv : SlG h v l) (hs : Shape v) (hk : k ≤ l.length) (hx : x.ev e = some v) (hy : y.ev e = some (.int .i64 (k : Int)))
    (H : ∀ u, SlG h u (l.take k) → Shape u → Q (u, h)) : OB (op1 ro e h (.slSl 2 x none (some y) none)) Q := by
  obtain ⟨u, h1, h2, h3⟩ := sl_pre (ro := ro) hv hs hk hx hy
  rw [h1, OB_some]
  exact H u h2 h3
theorem OB_suf {v : V} {l : List Rg} {k : Nat} {x y : A} {Q : V × Hp → Prop} (hv : SlG h v l) (hs : Shape v) (hk : k ≤ l.length) (hx : x.ev e = some v) (hy : y.ev e = some (.int .i64 (k : Int)))
    (H : ∀ u, SlG h u (l.drop k) → Shape u → Q (u, h)) : OB (op1 ro e h (.slSl 2 x (some y) none none)) Q := by
  obtain ⟨u, h1, h2, h3⟩ := sl_suf (ro := ro) hv hs hk hx hy
  rw [h1, OB_some]
  exact H u h2 h3
theorem OB_appG {s x : A} {v y v' : V} {t : List Rg} {h' : Hp} {Q : V × Hp → Prop} (hs : s.ev e = some v) (hx : x.ev e = some y) (hy : SlG h y t) (ha : app ro h 2 16 v t.length (flat t) = some (v', h')) (H : Q (v', h')) : OB (op1 ro e h (.app 2 16 s x)) Q := by
  rw [op1_appG hs hx hy ha, OB_some]
  exact H

/-- What is appended to: a row of one's own, or the empty row. -/
def Nx (lo : Nat) (v : V) (t : List Rg) : Prop := Own lo v ∨ ∃ b, v = .sl b 0 0 1 ∧ t = []

theorem app_base {h0 h2 : Hp} {b : Nat} {t : List Rg} (hf : Fr h0 h2) (hs : shown h2 2 b 0 0 = some []) (ht : t.length ≤ 1000000) :
    ∃ v' h', app ro h2 2 16 (.sl b 0 0 1) t.length (flat t) = some (v', h') ∧ SlG h' v' t ∧ Nx h0.nx v' t ∧ Fr h0 h' := by
  by_cases h0' : t.length = 0
  · have ht' : t = [] := List.eq_nil_of_length_eq_zero h0'
    subst ht'
    exact ⟨.sl b 0 0 1, h2, by simp [app], ⟨rfl, hs⟩, .inr ⟨b, rfl, rfl⟩, hf⟩
  · refine ⟨.sl h2.nx 0 t.length 0, h2.new (.cells 2 (flat t)), ?_, Sl.ofNew (flat_len t), .inl (.inr ⟨_, _, _, rfl, hf.nx⟩), hf.new _⟩
    simp only [app]
    rw [if_neg h0', if_pos (by unfold roomMax; omega), if_neg (by omega), if_neg (by omega), hs]
    simp

theorem app_one {h0 h2 : Hp} {t : List Rg} {p : Rg} {vn : V} (hw0 : ∀ b x, h0.get b = some x → b < h0.nx) (hro : ro ≤ h0.nx) (hf : Fr h0 h2) (hv : SlG h2 vn t) (hN : Nx h0.nx vn t) (ht : t.length ≤ 1000000) :
    ∃ v' h', app ro (h2.new (.cells 2 [V.int .i64 p.1, V.int .i64 p.2])) 2 16 vn 1 [V.int .i64 p.1, V.int .i64 p.2] = some (v', h') ∧ SlG h' v' (t ++ [p]) ∧ Own h0.nx v' ∧ Fr h0 h' := by
  rcases hN with ho | ⟨b, rfl, rfl⟩
  · obtain ⟨v', h', h1, h2, h3, h4, _⟩ := app_range (p := p) hw0 hro hf hv ho ht
    exact ⟨v', h', h1, h2, h3, h4⟩
  · have hs := shown_fr ((Fr.refl hf.wf).new (.cells 2 [V.int .i64 p.1, V.int .i64 p.2])) hv.2
    obtain ⟨v', h', h1, h2, h3, h4⟩ := app_base (ro := ro) (t := [p]) (hf.new (.cells 2 [V.int .i64 p.1, V.int .i64 p.2])) hs (by simp)
    refine ⟨v', h', h1, h2, ?_, h4⟩
    rcases h3 with h3 | ⟨_, _, h3⟩
    · exact h3
    · cases h3

theorem app_many {h0 h2 : Hp} {a t : List Rg} {v : V} (hw0 : ∀ b x, h0.get b = some x → b < h0.nx) (hro : ro ≤ h0.nx) (hf : Fr h0 h2) (hv : SlG h2 v a) (ho : Own h0.nx v) (hl : a.length + t.length ≤ 1000000) :
    ∃ v' h', app ro h2 2 16 v t.length (flat t) = some (v', h') ∧ SlG h' v' (a ++ t) ∧ Own h0.nx v' ∧ Fr h0 h' := by
  by_cases h0' : t.length = 0
  · have ht' : t = [] := List.eq_nil_of_length_eq_zero h0'
    subst ht'
    rw [List.append_nil]
    refine ⟨v, h2, ?_, hv, ho, hf⟩
    rcases ho with rfl | ⟨b, o, n, rfl, _⟩
    · simp [app]
    · simp [app]
  · obtain ⟨v', h', h1, h2, h3, h4⟩ := app_sl (bytes := 16) (m := t.length) (news := flat t) hf hw0 hro hv ho (by omega) (flat_len t) (by unfold roomMax; omega) (by unfold roomMax; omega)
    refine ⟨v', h', h1, ?_, h3, h4⟩
    unfold SlG
    rw [flat_append, List.length_append]
    exact h2

theorem tw_split {a : Int} : ∀ (s : List Rg) (k : Nat), k ≤ s.length → (∀ p ∈ s.take k, p.1 < a) → (∀ p, s[k]? = some p → ¬ p.1 < a) →
    s.take k = s.takeWhile (fun p => decide (p.1 < a)) ∧ s.drop k = s.dropWhile (fun p => decide (p.1 < a))
  | [], k, _, _, _ => by simp
  | q :: s, 0, _, _, h2 => by
    have := h2 q rfl
    simp [this]
  | q :: s, k + 1, hk, h1, h2 => by
    have hq := h1 q (by simp)
    obtain ⟨g1, g2⟩ := tw_split s k (by simp at hk; omega) (fun p hp => h1 p (by simp [hp])) (fun p hp => h2 p (by simpa using hp))
    simp [hq, g1, g2]

theorem insS_snoc (l : List Rg) (r : Rg) : insS (l ++ [r]) = if r.1 = r.2 then insS l else ins (insS l) r := by
  simp [insS, List.foldl_append]
theorem ins_len (s : List Rg) (r : Rg) : (ins s r).length = s.length + 1 := by
  have : (s.takeWhile (fun p => decide (p.1 < r.1)) ++ s.dropWhile (fun p => decide (p.1 < r.1))).length = s.length := by rw [List.takeWhile_append_dropWhile]
  simp only [List.length_append] at this
  simp only [ins, List.length_append, List.length_cons]
  omega
theorem insS_le_go : ∀ (l s : List Rg), (l.foldl (fun s r => if r.1 = r.2 then s else ins s r) s).length ≤ s.length + l.length
  | [], s => by simp
  | r :: l, s => by
    have h1 := insS_le_go l (if r.1 = r.2 then s else ins s r)
    have h2 := ins_len s r
    simp only [List.foldl_cons, List.length_cons]
    split at h1 <;> simp_all <;> omega
theorem insS_le (l : List Rg) : (insS l).length ≤ l.length := by
  have := insS_le_go l []
  simpa [insS] using this
open Go Go.RowKit
set_option maxRecDepth 100000
set_option linter.unusedSimpArgs false
set_option linter.unusedVariables false
variable {fs : Nat → Option D} {ro : Nat} {h : Hp} {e : Env}

/-- Where a range goes in. -/
theorem tidy_at {vs : V} {h1 : Hp} {s : List Rg} {b o c i n : Nat} {L : List V} {r : Rg} (hvs : SlG h1 vs s) (hs1000 : s.length ≤ 1000) (hg : h1.get b = some (.cells 2 L)) (hin : i < n) (q1 : L[o + i * 2]? = some (.int .i64 r.1)) {Q : X → Env → Hp → Prop}
    (hq : ∀ k e, k ≤ s.length → s.take k = s.takeWhile (fun p => decide (p.1 < r.1)) → s.drop k = s.dropWhile (fun p => decide (p.1 < r.1)) → e.get 0 = some (.sl b o n c) → e.get 3 = some vs → e.get 4 = some (.int .i64 (i : Nat)) → e.get 5 = some (.int .i64 (k : Nat)) → Q .nrm e h1) :
    WP fs ro (.block 2 (.loop (.seq (.seq (.reg .true (some [0, 3, 4, 5, 43]) [⟨(some 27), none, (.mov (.t 5))⟩, ⟨(some 28), none, (.mov (.t 3))⟩, ⟨(some 29), none, (.lenSl (.t 28))⟩, ⟨(some 30), none, (.bin .lss (.t 27) (.t 29))⟩, ⟨(some 31), none, (.mov (.t 30))⟩, ⟨(some 32), (some (31, .true)), (.mov (.t 3))⟩, ⟨(some 33), (some (31, .true)), (.mov (.t 5))⟩, ⟨(some 34), (some (31, .true)), (.idxA 2 (.t 32) (.t 33))⟩, ⟨(some 35), (some (31, .true)), (.fldA 0 (.t 34))⟩, ⟨(some 36), (some (31, .true)), (.load none (.t 35))⟩, ⟨(some 37), (some (31, .true)), (.mov (.t 0))⟩, ⟨(some 38), (some (31, .true)), (.mov (.t 4))⟩, ⟨(some 39), (some (31, .true)), (.idxA 2 (.t 37) (.t 38))⟩, ⟨(some 40), (some (31, .true)), (.fldA 0 (.t 39))⟩, ⟨(some 41), (some (31, .true)), (.load none (.t 40))⟩, ⟨(some 42), (some (31, .true)), (.bin .lss (.t 36) (.t 41))⟩, ⟨(some 43), none, (.pick (.t 31) (.t 42) (.c (.bool .false)))⟩]) (.cond (.t 43) .skip (.exit 2))) (.block 3 (.reg .false (some [0, 3, 4, 5]) [⟨(some 44), none, (.mov (.t 5))⟩, ⟨(some 45), none, (.bin .add (.t 44) (.c (.int .i64 1)))⟩, ⟨(some 5), none, (.mov (.t 45))⟩])))))
      [(0, .sl b o n c), (3, vs), (4, .int .i64 (i : Nat)), (5, .int .i64 0)] h1 Q := by
  have hlen := hvs.lenV
  refine WP_block ?_
  refine WP_loop (fun m e h2 => ∃ k, m = s.length - k ∧ k ≤ s.length ∧ (∀ p ∈ s.take k, p.1 < r.1) ∧ h1 = h2 ∧ e = [(0, .sl b o n c), (3, vs), (4, .int .i64 (i : Nat)), (5, .int .i64 (k : Nat))]) s.length ⟨0, by omega, by omega, fun p hp => by simp at hp, rfl, rfl⟩ ?_
  rintro m e h2 ⟨k, rfl, hk, hlt, rfl, rfl⟩
  refine WP_seq ?_
  have hfl : (L[o + i * 2]? : Option V) = some (.int .i64 r.1) := q1
  refine WP_mid (fun e2 h2 => h1 = h2 ∧ e2 = [(0, .sl b o n c), (3, vs), (4, .int .i64 (i : Nat)), (5, .int .i64 (k : Nat)), (43, .bool (match s[k]? with | some p => decide (p.1 < r.1) | none => false))]) ?_ ?_
  · refine WP_reg ?_
    by_cases c1 : k < s.length
    · obtain ⟨b2, o2, c2, L2, rfl, hg2, w1, w2⟩ := SlG.at hvs (List.getElem?_eq_getElem c1)
      have hsk : s[k]? = some s[k] := List.getElem?_eq_getElem c1
      rw [hsk]
      repeat (first | (refine WPO_op rfl ?_; simp [c1, loadV_ptr hg2, loadV_ptr hg, w1, hfl, hin]; done) | (refine WPO_op rfl ?_; simp [c1, loadV_ptr hg2, loadV_ptr hg, w1, hfl, hin]) | (refine WPO_gop rfl ?_; simp [c1, loadV_ptr hg2, loadV_ptr hg, w1, hfl, hin]) | (refine WPO_nil ?_; simp [c1]))
    · have hsk : s[k]? = none := List.getElem?_eq_none (by omega)
      rw [hsk]
      repeat (first | (refine WPO_op rfl ?_; simp [c1, hlen]; done) | (refine WPO_op rfl ?_; simp [c1, hlen]) | (refine WPO_gop rfl ?_; simp [c1]) | (refine WPO_nil ?_; simp [c1]))
  rintro e2 h2 ⟨rfl, rfl⟩
  refine WP_cond rfl ⟨fun ht => ?_, fun ht => ?_⟩
  · have hc1 : k < s.length := by
      rcases Nat.lt_or_ge k s.length with h3 | h3
      · exact h3
      · rw [List.getElem?_eq_none h3] at ht
        cases ht
    rw [List.getElem?_eq_getElem hc1] at ht
    have hlt2 : s[k].1 < r.1 := by simpa using ht
    have hwr : IntKind.wrap .i64 ((k : Int) + 1) = ((k + 1 : Nat) : Int) := by rw [wrap_i64 (by omega) (by omega)]; omega
    simp only [WP_skip, nrmOr_nrm]
    refine WP_block ?_
    repeat (first | refine WP_reg ?_ | (refine WPO_op rfl ?_; simp) | (refine WPO_nil ?_; simp))
    refine ⟨s.length - (k + 1), by omega, k + 1, rfl, by omega, fun a b hp => ?_, ?_⟩
    · rw [List.take_succ_eq_append_getElem hc1] at hp
      rcases List.mem_append.1 hp with hp | hp
      · exact hlt _ hp
      · simp at hp
        rw [← hp] at hlt2
        exact hlt2
    · rw [hwr]
  · simp only [WP_exit, nrmOr_exit, blkQ_exit, if_pos, nrmOr_nrm, blkQ_nrm]
    obtain ⟨g1, g2⟩ := tw_split (a := r.1) s k hk hlt (fun p hp => by
      rw [hp] at ht
      simpa using ht)
    exact hq k _ hk g1 g2 rfl rfl rfl rfl
open Go Go.RowKit
set_option maxRecDepth 100000
set_option linter.unusedSimpArgs false
set_option linter.unusedVariables false
variable {fs : Nat → Option D} {ro : Nat} {h : Hp} {e : Env}

/-- One range goes in: three rows are joined. -/
theorem tidy_ins {vs : V} {h0 h1 : Hp} {s : List Rg} {b o c i n k : Nat} {L : List V} {r : Rg} (hw0 : ∀ b x, h0.get b = some x → b < h0.nx) (hro : ro ≤ h0.nx) (hf : Fr h0 h1) (hvs : SlG h1 vs s) (hos : Own h0.nx vs) (hs1000 : s.length ≤ 1000)
    (hg : h1.get b = some (.cells 2 L)) (hin : i < n) (q1 : L[o + i * 2]? = some (.int .i64 r.1)) (q2 : L[o + i * 2 + 1]? = some (.int .i64 r.2)) (hk : k ≤ s.length)
    (e0 : e.get 0 = some (.sl b o n c)) (e3 : e.get 3 = some vs) (e4 : e.get 4 = some (.int .i64 (i : Nat))) (e5 : e.get 5 = some (.int .i64 (k : Nat))) {Q : X → Env → Hp → Prop}
    (hq : ∀ v' h' e', SlG h' v' (s.take k ++ r :: s.drop k) → Own h0.nx v' → Fr h0 h' → e' = [(0, .sl b o n c), (3, v'), (4, .int .i64 (i : Nat))] → Q .nrm e' h') :
    WP fs ro (.seq (.reg .false (some [0, 3, 4, 5, 6]) [⟨(some 46), none, (.buildSl 2 0 [(.int .i64 0), (.int .i64 0)] [])⟩, ⟨(some 47), none, (.mov (.t 3))⟩, ⟨(some 48), none, (.mov (.t 5))⟩, ⟨(some 49), none, (.slSl 2 (.t 47) none (some (.t 48)) none)⟩, ⟨(some 50), none, (.app 2 16 (.t 46) (.t 49))⟩, ⟨(some 6), none, (.mov (.t 50))⟩]) (.seq (.reg .false (some [0, 3, 4, 5, 6]) [⟨(some 51), none, (.mov (.t 6))⟩, ⟨(some 52), none, (.mov (.t 0))⟩, ⟨(some 53), none, (.mov (.t 4))⟩, ⟨(some 54), none, (.idxA 2 (.t 52) (.t 53))⟩, ⟨(some 55), none, (.load (some 2) (.t 54))⟩, ⟨(some 56), none, (.buildSl 2 1 [(.int .i64 0), (.int .i64 0)] [(0, (2, (.t 55)))])⟩, ⟨(some 57), none, (.app 2 16 (.t 51) (.t 56))⟩, ⟨(some 6), none, (.mov (.t 57))⟩]) (.reg .false (some [0, 3, 4]) [⟨(some 58), none, (.mov (.t 6))⟩, ⟨(some 59), none, (.mov (.t 3))⟩, ⟨(some 60), none, (.mov (.t 5))⟩, ⟨(some 61), none, (.slSl 2 (.t 59) (some (.t 60)) none none)⟩, ⟨(some 62), none, (.app 2 16 (.t 58) (.t 61))⟩, ⟨(some 3), none, (.mov (.t 62))⟩])))
      e h1 Q := by
  have hsh := Own.shape hos
  have htk : (s.take k).length ≤ 1000 := by simp; omega
  refine WP_seq ?_
  refine WP_reg ?_
  refine WPO_op rfl ?_
  simp [evParts, zeros, fill]
  have hfA : Fr h1 (h1.new (.cells 2 [])) := (Fr.refl hf.wf).new _
  have hsn : shown (h1.new (.cells 2 [])) 2 h1.nx 0 0 = some [] := (Sl.ofNew (h := h1) (sz := 2) (n := 0) (c := 1) (l := []) rfl).2
  generalize (h1.new (.cells 2 [])) = hA at *
  have hvA : SlG hA vs s := Sl.fr hfA hvs
  refine WPO_op rfl ?_
  simp [e3]
  refine WPO_op rfl ?_
  simp [e5]
  refine WPO_op rfl ?_
  refine OB_pre hvA hsh hk (by simp) (by simp) fun u hu hsu => ?_
  simp
  obtain ⟨vn, hB, ha1, hvn, hNx, hfB⟩ := app_base (ro := ro) hfA hsn (t := s.take k) (by omega)
  refine WPO_op rfl ?_
  refine OB_appG (v := .sl h1.nx 0 0 1) (by simp) (by simp) hu ha1 ?_
  simp
  refine WPO_op rfl ?_
  simp
  refine WPO_nil ?_
  simp [e0, e3, e4, e5]
  refine WP_seq ?_
  refine WP_reg ?_
  have hgB := hfB.sub _ _ hg
  have hvB : SlG hB vs s := Sl.fr hfB hvs
  have hro1 : ro ≤ h1.nx := by have := hf.nx; omega
  refine WPO_op rfl ?_
  simp
  refine WPO_op rfl ?_
  simp
  refine WPO_op rfl ?_
  simp
  refine WPO_op rfl ?_
  simp [hin]
  refine WPO_op rfl ?_
  simp [loadV_ptr hgB, loadN_two q1 q2]
  refine WPO_op rfl ?_
  simp [evParts, zeros, fill, V.cells, setN]
  obtain ⟨vn2, hC, ha2, hvn2, hon2, hfC⟩ := app_one (ro := ro) (p := r) hf.wf hro1 hfB hvn hNx (by omega)
  refine WPO_op rfl ?_
  refine OB_appG (v := vn) (y := .sl hB.nx 0 1 2) (t := [r]) rfl rfl (Sl.ofNew (h := hB) (sz := 2) (n := 1) (c := 2) (l := [V.int .i64 r.1, V.int .i64 r.2]) rfl) ha2 ?_
  simp
  refine WPO_op rfl ?_
  simp
  refine WPO_nil ?_
  simp
  have hvC : SlG hC vs s := Sl.fr hfC hvs
  refine WP_reg ?_
  refine WPO_op rfl ?_
  simp
  refine WPO_op rfl ?_
  simp
  refine WPO_op rfl ?_
  simp
  refine WPO_op rfl ?_
  refine OB_suf hvC hsh hk rfl rfl fun u2 hu2 hsu2 => ?_
  simp
  obtain ⟨v', hD, ha3, hv', ho', hfD⟩ := app_many (ro := ro) (t := s.drop k) hf.wf hro1 hfC hvn2 hon2 (by simp; omega)
  refine WPO_op rfl ?_
  refine OB_appG (v := vn2) rfl rfl hu2 ha3 ?_
  simp
  refine WPO_op rfl ?_
  simp
  refine WPO_nil ?_
  simp
  refine hq v' hD _ ?_ (ho'.mono hf.nx) (hf.trans hfD) rfl
  rw [List.append_assoc] at hv'
  exact hv'

theorem ev37 {v : V} {l : List Rg} (hf : fs 50 = some (.code F50)) (hv : SlG h v l) (hval : ∀ p ∈ l, p.1 ≤ p.2) (hw : ∀ b x, h.get b = some x → b < h.nx) (hro : ro ≤ h.nx) (hn : l.length ≤ 1000) {Q : V → Hp → Prop}
    (hq : ∀ x h', SlG h' x (canon l) → Own h.nx x → Fr h h' → Q x h') : Ev fs ro 50 [v] h Q := by
  have hlen := hv.lenV
  refine Ev_fn hf rfl rfl rfl rfl ?_
  refine WP_seq ?_
  refine WP_reg ?_
  refine WPO_op rfl ?_
  simp
  refine WPO_nil ?_
  simp
  refine WP_seq ?_
  refine WP_reg ?_
  refine WPO_op rfl ?_
  simp
  refine WPO_nil ?_
  simp
  refine WP_mid (fun e' h' => ∃ vs, SlG h' vs (insS l) ∧ Own h.nx vs ∧ Fr h h' ∧ e'.get 3 = some vs) ?_ ?_
  · refine WP_seq ?_
    refine WP_reg ?_
    refine WPO_op rfl ?_
    simp
    refine WPO_nil ?_
    simp
    refine WP_block ?_
    refine WP_loop (fun m e h1 => ∃ i vs, m = l.length - i ∧ i ≤ l.length ∧ SlG h1 vs (insS (l.take i)) ∧ Own h.nx vs ∧ Fr h h1 ∧ e = [(0, v), (3, vs), (4, .int .i64 (i : Nat))]) l.length ⟨0, .nsl, by omega, by omega, ⟨by simp [insS], by simp [insS, flat]⟩, .inl rfl, Fr.refl hw, rfl⟩ ?_
    rintro m e h1 ⟨i, vs, rfl, hi, hvs, hos, hfr, rfl⟩
    refine WP_seq ?_
    refine WP_seq ?_
    refine WP_reg ?_
    repeat (first | (refine WPO_op rfl ?_; simp [hlen]) | (refine WPO_nil ?_; simp))
    refine WP_cond rfl ⟨fun ht => ?_, fun ht => ?_⟩
    · have hi' : i < l.length := by simpa using ht
      obtain ⟨b, o, c, L, rfl, hg, q1, q2⟩ := SlG.at (h := h1) (l := l) (Sl.fr hfr hv) (List.getElem?_eq_getElem hi')
      have hsl : (insS (l.take i)).length ≤ 1000 := by
        have := insS_le (l.take i)
        simp at this
        omega
      have hnext : insS (l.take (i + 1)) = if l[i].1 = l[i].2 then insS (l.take i) else ins (insS (l.take i)) l[i] := by
        rw [List.take_succ_eq_append_getElem hi', insS_snoc]
      have hwr : IntKind.wrap .i64 ((i : Int) + 1) = ((i + 1 : Nat) : Int) := by rw [wrap_i64 (by omega) (by omega)]; omega
      generalize insS (l.take i) = s at *
      simp only [WP_skip, nrmOr_nrm]
      refine WP_mid (fun e' h' => ∃ vs3, SlG h' vs3 (insS (l.take (i + 1))) ∧ Own h.nx vs3 ∧ Fr h h' ∧ e'.get 0 = some (.sl b o l.length c) ∧ e'.get 3 = some vs3 ∧ e'.get 4 = some (.int .i64 (i : Nat))) ?_ ?_
      · refine WP_block ?_
        refine WP_seq ?_
        refine WP_seq ?_
        refine WP_reg ?_
        repeat (first | (refine WPO_op rfl ?_; simp [loadV_ptr hg, q1, q2, hi']; done) | (refine WPO_op rfl ?_; simp [loadV_ptr hg, q1, q2, hi']) | (refine WPO_nil ?_; simp))
        refine WP_cond rfl ⟨fun hd => ?_, fun hd => ?_⟩
        · have he : l[i].1 = l[i].2 := by simpa using hd
          rw [if_pos he] at hnext
          rw [hnext]
          simp only [WP_exit, nrmOr_exit, blkQ_exit, if_pos, nrmOr_nrm, blkQ_nrm]
          exact ⟨vs, hvs, hos, hfr, rfl, rfl, rfl⟩
        · have he : ¬ l[i].1 = l[i].2 := by simpa using hd
          rw [if_neg he] at hnext
          rw [hnext]
          simp only [WP_skip, nrmOr_nrm]
          refine WP_seq ?_
          refine WP_reg ?_
          refine WPO_op rfl ?_
          simp
          refine WPO_nil ?_
          simp
          refine WP_seq ?_
          refine tidy_at (r := l[i]) hvs hsl hg hi' q1 fun k e2 hk t1 t2 g0 g3 g4 g5 => ?_
          simp only [nrmOr_nrm]
          refine tidy_ins (r := l[i]) hw hro hfr hvs hos hsl hg hi' q1 q2 hk g0 g3 g4 g5 fun v' h' e' s1 s2 s3 s4 => ?_
          subst s4
          simp only [blkQ_nrm, nrmOr_nrm]
          refine ⟨v', ?_, s2, s3, rfl, rfl, rfl⟩
          rw [t1, t2] at s1
          exact s1
      rintro e' h' ⟨vs3, g1, g2, g3, e0, e3, e4⟩
      repeat (first | refine WP_reg ?_ | (refine WPO_op rfl ?_; simp [e4]) | (refine WPO_nil ?_; simp [e0, e3, e4]))
      refine ⟨l.length - (i + 1), by omega, i + 1, rfl, by omega, vs3, g1, g2, g3, rfl, ?_⟩
      rw [hwr]
    · have hi' : i = l.length := by
        have : ¬ (i < l.length) := by simpa using ht
        omega
      subst hi'
      rw [List.take_length] at hvs
      simp only [WP_exit, nrmOr_exit, blkQ_exit, if_pos, nrmOr_nrm, blkQ_nrm]
      exact ⟨vs, hvs, hos, hfr, rfl⟩
  rintro e1 hP ⟨vs, hvs, hos, hfP, e3⟩
  have hS : ∀ p ∈ insS l, p.1 < p.2 := fun p hp => by
    have h1 := ((insS_spec l).2 p).1 hp
    have h2 := hval p h1.1
    omega
  have hSl : (insS l).length ≤ 1000 := by have := insS_le l; omega
  have hcan : canon l = mrgs (insS l) := rfl
  rw [hcan] at hq
  generalize insS l = S at *
  clear hcan hlen
  have hlen := hvs.lenV
  refine WP_seq ?_
  refine WP_reg ?_
  refine WPO_op rfl ?_
  simp
  refine WPO_nil ?_
  simp [e3]
  refine WP_seq ?_
  refine WP_seq ?_
  refine WP_reg ?_
  refine WPO_op rfl ?_
  simp
  refine WPO_nil ?_
  simp
  refine WP_block ?_
  have hroP : ro ≤ hP.nx := by have := hfP.nx; omega
  refine WP_loop (fun m e h1 => ∃ i out vo, m = S.length - i ∧ i ≤ S.length ∧ out = mrgs (S.take i) ∧ out.length ≤ i ∧ SlG h1 vo out ∧ Own hP.nx vo ∧ Fr hP h1 ∧ e = [(3, vs), (7, vo), (8, .int .i64 (i : Nat))]) S.length ⟨0, [], .nsl, by omega, by omega, rfl, by simp, ⟨rfl, rfl⟩, .inl rfl, Fr.refl hfP.wf, rfl⟩ ?_
  rintro m e h1 ⟨i, out, vo, rfl, hi, hout, holen, hvo, hown, hfr, rfl⟩
  refine WP_seq ?_
  refine WP_seq ?_
  refine WP_reg ?_
  repeat (first | (refine WPO_op rfl ?_; simp [hlen]) | (refine WPO_nil ?_; simp))
  refine WP_cond rfl ⟨fun ht => ?_, fun ht => ?_⟩
  · have hi' : i < S.length := by simpa using ht
    have hvs1 := Sl.fr hfr hvs
    obtain ⟨b, o, c, L, rfl, hg, q1, q2⟩ := SlG.at (h := h1) (l := S) hvs1 (List.getElem?_eq_getElem hi')
    have hwr : IntKind.wrap .i64 ((i : Int) + 1) = ((i + 1 : Nat) : Int) := by rw [wrap_i64 (by omega) (by omega)]; omega
    have hpos := hS S[i] (List.getElem_mem hi')
    simp only [WP_skip, nrmOr_nrm]
    refine WP_mid (fun e' h' => ∃ vo3, SlG h' vo3 (mrg out S[i]) ∧ Own hP.nx vo3 ∧ Fr hP h' ∧ e'.get 3 = some (.sl b o S.length c) ∧ e'.get 7 = some vo3 ∧ e'.get 8 = some (.int .i64 (i : Nat))) ?_ ?_
    rotate_left
    · rintro e' h' ⟨vo3, g1, g2, g3, e3, e7, e8⟩
      repeat (first | refine WP_reg ?_ | (refine WPO_op rfl ?_; simp [e8]) | (refine WPO_nil ?_; simp [e3, e7, e8]))
      have hout' : mrg out S[i] = mrgs (S.take (i + 1)) := by
        unfold mrgs
        rw [List.take_succ_eq_append_getElem hi', List.foldl_append, hout]
        rfl
      have hle := mrg_le1 out S[i]
      refine ⟨S.length - (i + 1), by omega, i + 1, rfl, by omega, ?_, vo3, by rw [← hout']; exact g1, g2, g3, rfl, ?_⟩
      · rw [← hout']
        omega
      · rw [hwr]
    refine WP_block ?_
    refine WP_seq ?_
    refine WP_reg ?_
    have hlo := hvo.lenV
    repeat (first | (refine WPO_op rfl ?_; simp [hlo]) | (refine WPO_nil ?_; simp))
    refine WP_seq ?_
    have hlast : ∀ {e2 : Env}, e2.get 3 = some (.sl b o S.length c) → e2.get 7 = some vo → e2.get 8 = some (.int .i64 (i : Nat)) → mrg out S[i] = out ++ [S[i]] →
        WP fs ro (.reg .false (some [3, 7, 8]) [⟨(some 104), none, (.mov (.t 7))⟩, ⟨(some 105), none, (.mov (.t 3))⟩, ⟨(some 106), none, (.mov (.t 8))⟩, ⟨(some 107), none, (.idxA 2 (.t 105) (.t 106))⟩, ⟨(some 108), none, (.load (some 2) (.t 107))⟩, ⟨(some 109), none, (.buildSl 2 1 [(.int .i64 0), (.int .i64 0)] [(0, (2, (.t 108)))])⟩, ⟨(some 110), none, (.app 2 16 (.t 104) (.t 109))⟩, ⟨(some 7), none, (.mov (.t 110))⟩]) e2 h1
          fun x e' h' => x = .nrm ∧ ∃ vo3, SlG h' vo3 (mrg out S[i]) ∧ Own hP.nx vo3 ∧ Fr hP h' ∧ e'.get 3 = some (.sl b o S.length c) ∧ e'.get 7 = some vo3 ∧ e'.get 8 = some (.int .i64 (i : Nat)) := by
      intro e2 e3 e7 e8 hm
      obtain ⟨v', h', ha, hs, ho, hfa, hsh⟩ := app_range (p := S[i]) hfP.wf hroP hfr hvo hown (by omega)
      refine WP_reg ?_
      refine WPO_op rfl ?_
      simp [e7]
      refine WPO_op rfl ?_
      simp [e3]
      refine WPO_op rfl ?_
      simp [e8]
      refine WPO_op rfl ?_
      simp [hi']
      refine WPO_op rfl ?_
      simp [loadV_ptr hg, loadN_two q1 q2]
      refine WPO_op rfl ?_
      simp [evParts, zeros, fill, V.cells, setN]
      refine WPO_op rfl ?_
      rw [op1_app (v := vo) (b := h1.nx) (o := 0) (m := 1) (c := 2) (h' := h') (by simp [e7]) (by simp) hsh rfl ha]
      simp
      refine WPO_op rfl ?_
      simp
      refine WPO_nil ?_
      simp [e3, e8]
      rw [hm]
      exact ⟨v', hs, ho, hfa, rfl⟩
    rcases List.eq_nil_or_concat out with rfl | ⟨init, q, rfl⟩
    · refine WP_reg ?_
      repeat (first | (refine WPO_op rfl ?_; simp; done) | (refine WPO_op rfl ?_; simp) | (refine WPO_gop rfl ?_; simp) | (refine WPO_nil ?_; simp))
      refine WP_cond rfl ⟨fun hd => (by cases hd), fun _ => ?_⟩
      refine WP.mono (hlast rfl rfl rfl (by simp [mrg]; omega)) ?_
      rintro x e' h' ⟨rfl, g⟩
      simpa only [blkQ_nrm, nrmOr_nrm] using g
    · rw [List.concat_eq_append] at *
      have hq1 : (init ++ [q])[init.length]? = some q := by simp
      have hown2 := hown
      rcases hown2 with rfl | ⟨bo, oo, no, rfl, hbo⟩
      · simp [SlG, Sl] at hvo
      obtain ⟨bo', oo', co', Lo, ee, hgo, w1, w2⟩ := SlG.at hvo hq1
      cases ee
      have hil : init.length ≤ 1000000 := by simp at holen; omega
      have hwr2 : IntKind.wrap .i64 (init.length : Int) = init.length := wrap_i64 (by omega) (by omega)
      have hlt : (init.length : Int) < init.length + 1 := by omega
      refine WP_reg ?_
      repeat (first | (refine WPO_op rfl ?_; simp; done) | (refine WPO_op rfl ?_; simp) | (refine WPO_gop rfl ?_; simp [loadV_ptr hgo, loadV_ptr hg, hwr2, hlt, w2, q1, hi']) | (refine WPO_nil ?_; simp))
      refine WP_cond rfl ⟨fun hd => ?_, fun hd => ?_⟩
      · have hd' : S[i].1 ≤ q.2 := by simpa using hd
        refine WP_reg ?_
        repeat (first | (refine WPO_op rfl ?_; simp [loadV_ptr hgo, loadV_ptr hg, hwr2, hlt, w2, q2, hi', maxs, fold2, max2]; done) | (refine WPO_op rfl ?_; simp [loadV_ptr hgo, loadV_ptr hg, hwr2, hlt, w2, q2, hi', maxs, fold2, max2]))
        obtain ⟨L', hset, hv4, hf4⟩ := Sl.put (x := V.int .i64 (if q.2 < S[i].2 then S[i].2 else q.2)) (j := init.length * 2 + 1) hfr hfP.wf hvo hbo hgo (by rw [flat_len]; simp; omega)
        rw [← Nat.add_assoc] at hset
        refine OB_store (b := bo) (o := oo + init.length * 2 + 1) (v := V.int .i64 (if q.2 < S[i].2 then S[i].2 else q.2)) (l' := L') rfl rfl (by omega) rfl rfl hgo hset ?_
        simp
        refine WPO_nil ?_
        simp
        have hm : mrg (init ++ [q]) S[i] = (init ++ [q]).set init.length (q.1, if q.2 < S[i].2 then S[i].2 else q.2) := by
          simp [mrg, hd']
          omega
        refine ⟨V.sl bo oo (init.length + 1) 0, ?_, .inr ⟨_, _, _, rfl, hbo⟩, hf4, rfl⟩
        rw [hm]
        unfold SlG
        rw [← flat_set hq1]
        simpa using hv4
      · have hd' : ¬ S[i].1 ≤ q.2 := by simpa using hd
        refine WP.mono (hlast rfl (by simp) rfl (by simp [mrg, hd']; omega)) ?_
        rintro x e' h' ⟨rfl, g⟩
        simpa only [blkQ_nrm, nrmOr_nrm] using g
  · have hi' : i = S.length := by
      have : ¬ (i < S.length) := by simpa using ht
      omega
    subst hi'
    rw [List.take_length] at hout
    subst hout
    simp only [WP_exit, nrmOr_exit, blkQ_exit, if_pos, nrmOr_nrm, blkQ_nrm]
    repeat (first | refine WP_seq ?_ | refine WP_reg ?_ | (refine WPO_op rfl ?_; simp) | (refine WPO_nil ?_; simp))
    simp [WP_ret, F50]
    exact hq _ _ hvo (hown.mono hfP.nx) (hfP.trans hfr)
open Go Go.RowKit
set_option maxRecDepth 100000
set_option linter.unusedSimpArgs false
set_option linter.unusedVariables false
variable {fs : Nat → Option D} {ro : Nat} {h : Hp} {e : Env}

def AllOk (l : List Rg) : Prop := l.all okR = true

def refL (l : List Rg) : List Rg := if l.all okR = true then canon l else []

theorem canon_le (l : List Rg) : (canon l).length ≤ l.length := by
  have h1 := insS_le l
  have h2 := mrgs_le (insS l)
  unfold canon
  omega

theorem okR_le {p : Rg} (h : okR p = true) : 0 ≤ p.1 ∧ p.1 ≤ p.2 ∧ p.2 ≤ 1099511627776 := by
  simp only [okR, Bool.and_eq_true, decide_eq_true_eq] at h
  exact ⟨h.1.1, h.1.2, h.2⟩

theorem okR_eq (p : Rg) : okR p = (!decide (p.1 < 0) && (!decide (p.2 < p.1) && !decide (1099511627776 < p.2))) := by
  unfold okR
  by_cases c1 : p.1 < 0 <;> by_cases c2 : p.2 < p.1 <;> by_cases c3 : 1099511627776 < p.2
  all_goals
    have d1 : decide (0 ≤ p.1) = !decide (p.1 < 0) := by simp only [decide_not, ← Int.not_lt]
    have d2 : decide (p.1 ≤ p.2) = !decide (p.2 < p.1) := by simp only [decide_not, ← Int.not_lt]
    have d3 : decide (p.2 ≤ 1099511627776) = !decide (1099511627776 < p.2) := by simp only [decide_not, ← Int.not_lt]
    rw [d1, d2, d3, Bool.and_assoc]

theorem ofL_ref (l : List Rg) : ofL l = refL l := by
  unfold ofL refL
  split
  · rename_i h
    exact mrgs_canon (fun p hp => (okR_le (List.all_eq_true.1 h p hp)).2.1) (sortR_sorted l) (sortR_mem l)
  · rfl

theorem ev33 {v : V} {l : List Rg} (hf : fs 29 = some (.code F29)) (hf37 : fs 50 = some (.code F50)) (hv : SlG h v l) (hw : ∀ b x, h.get b = some x → b < h.nx) (hro : ro ≤ h.nx) (hn : l.length ≤ 1000) {Q : V → Hp → Prop}
    (hq : ∀ x h', SlG h' x (refL l) → Own h.nx x → Fr h h' → Q (.tup [x, .int .i64 (ofE l)]) h') : Ev fs ro 29 [v] h Q := by
  have hlen := hv.lenV
  refine Ev_fn hf rfl rfl rfl rfl ?_
  refine WP_seq ?_
  refine WP_reg ?_
  repeat (first | (refine WPO_op rfl ?_; simp) | (refine WPO_nil ?_; simp))
  refine WP_mid (fun e' h' => h = h' ∧ AllOk l ∧ e'.get 0 = some v) ?_ ?_
  · refine WP_seq ?_
    refine WP_reg ?_
    repeat (first | (refine WPO_op rfl ?_; simp) | (refine WPO_nil ?_; simp))
    refine WP_block ?_
    refine WP_loop (fun m e h1 => ∃ i, m = l.length - i ∧ i ≤ l.length ∧ AllOk (l.take i) ∧ h = h1 ∧ e = [(0, v), (4, .int .i64 (i : Nat))]) l.length ⟨0, by omega, by omega, by simp [AllOk], rfl, rfl⟩ ?_
    rintro m e h1 ⟨i, rfl, hi, hok, rfl, rfl⟩
    refine WP_seq ?_
    refine WP_seq ?_
    refine WP_reg ?_
    repeat (first | (refine WPO_op rfl ?_; simp [hlen]) | (refine WPO_nil ?_; simp))
    refine WP_cond rfl ⟨fun ht => ?_, fun ht => ?_⟩
    · have hi' : i < l.length := by simpa using ht
      obtain ⟨b, o, c, L, rfl, hg, q1, q2⟩ := SlG.at hv (List.getElem?_eq_getElem hi')
      have hwr : IntKind.wrap .i64 ((i : Int) + 1) = ((i + 1 : Nat) : Int) := by rw [wrap_i64 (by omega) (by omega)]; omega
      simp only [WP_skip, nrmOr_nrm]
      refine WP_mid (fun e' h' => h = h' ∧ okR l[i] = true ∧ e'.get 0 = some (.sl b o l.length c) ∧ e'.get 4 = some (.int .i64 (i : Nat))) ?_ ?_
      · refine WP_block ?_
        refine WP_mid (fun e2 h2 => h = h2 ∧ e2 = [(0, .sl b o l.length c), (4, .int .i64 (i : Nat)), (38, .bool (!okR l[i]))]) ?_ ?_
        · refine WP_reg ?_
          rw [okR_eq]
          by_cases c1 : l[i].1 < 0 <;> by_cases c2 : l[i].2 < l[i].1 <;> by_cases c3 : 1099511627776 < l[i].2 <;>
            repeat (first | (refine WPO_op rfl ?_; simp [loadV_ptr hg, q1, q2, hi', c1, c2, c3]; done) | (refine WPO_op rfl ?_; simp [loadV_ptr hg, q1, q2, hi', c1, c2, c3]) | (refine WPO_gop rfl ?_; simp [loadV_ptr hg, q1, q2, hi', c1, c2, c3]) | (refine WPO_nil ?_; simp [c1, c2, c3]))
        rintro e2 h2 ⟨rfl, rfl⟩
        refine WP_cond rfl ⟨fun hd => ?_, fun hd => ?_⟩
        · have hb : okR l[i] = false := by simpa using hd
          have hall : l.all okR = false := by
            cases hc : l.all okR with
            | false => rfl
            | true =>
              have := List.all_eq_true.1 hc l[i] (List.getElem_mem hi')
              rw [hb] at this; cases this
          repeat (first | refine WP_seq ?_ | refine WP_reg ?_ | (refine WPO_op rfl ?_; simp) | (refine WPO_nil ?_; simp))
          simp [WP_ret, F29]
          have := hq .nsl h (by simp only [refL, hall]; exact ⟨rfl, rfl⟩) (.inl rfl) (Fr.refl hw)
          simpa [ofE, hall, pack] using this
        · have hb : okR l[i] = true := by simpa using hd
          simp only [WP_skip, blkQ_nrm, nrmOr_nrm]
          exact ⟨trivial, hb, rfl, rfl⟩
      rintro e' h' ⟨rfl, hb, e0, e4⟩
      repeat (first | refine WP_reg ?_ | (refine WPO_op rfl ?_; simp [e4]) | (refine WPO_nil ?_; simp [e0, e4]))
      refine ⟨l.length - (i + 1), by omega, i + 1, rfl, by omega, ?_, ?_⟩
      · unfold AllOk at hok ⊢
        rw [List.take_succ_eq_append_getElem hi', List.all_append, hok]
        simp [hb]
      · rw [hwr]
    · have hi' : i = l.length := by
        have : ¬ (i < l.length) := by simpa using ht
        omega
      subst hi'
      rw [List.take_length] at hok
      simp only [WP_exit, nrmOr_exit, blkQ_exit, if_pos, nrmOr_nrm, blkQ_nrm]
      exact ⟨trivial, hok, rfl⟩
  rintro e1 h1 ⟨rfl, hok, e0⟩
  unfold AllOk at hok
  refine WP_seq ?_
  refine WP_reg ?_
  refine WPO_op rfl ?_
  simp [e0]
  refine WPO_call (g := 50) (a := []) (b := []) (args := [v]) rfl (by simp) ?_
  simp
  refine ev37 hf37 hv (fun p hp => (okR_le (List.all_eq_true.1 hok p hp)).2.1) hw (Nat.le_refl _) hn fun x h2 hsx hox hfx => ?_
  obtain ⟨hsR, hfR⟩ : SlG (if ground x = true then h else h2) x (canon l) ∧ Fr h (if ground x = true then h else h2) := by
    rcases hox with rfl | ⟨b, o, n, rfl, hb⟩
    · have hl := List.eq_nil_of_length_eq_zero hsx.1
      rw [hl]
      exact ⟨⟨rfl, rfl⟩, Fr.refl hw⟩
    · exact ⟨hsx, hfx⟩
  generalize (if ground x = true then h else h2) = hR at *
  have hlx := hsR.lenV
  have hcl := canon_le l
  refine WPO_op rfl ?_
  simp
  refine WPO_nil ?_
  simp
  refine WP_seq ?_
  refine WP_seq ?_
  refine WP_reg ?_
  repeat (first | (refine WPO_op rfl ?_; simp [hlx]) | (refine WPO_nil ?_; simp))
  refine WP_cond rfl ⟨fun hd => ?_, fun hd => ?_⟩
  · exfalso
    simp at hd
    omega
  simp only [WP_skip, nrmOr_nrm]
  repeat (first | refine WP_seq ?_ | refine WP_reg ?_ | (refine WPO_op rfl ?_; simp) | (refine WPO_nil ?_; simp))
  simp [WP_ret, F29]
  have := hq x hR (by simp only [refL, hok, if_true]; exact hsR) hox hfR
  simpa [ofE, hok, pack] using this
open Go Go.RowKit
set_option maxRecDepth 100000
set_option linter.unusedSimpArgs false
set_option linter.unusedVariables false
variable {fs : Nat → Option D} {ro : Nat} {h : Hp} {e : Env}

theorem sl_pre2 {v : V} {l : List Rg} {k : Nat} {x y : A} (hv : SlG h v l) (hs : Shape v) (hk : k ≤ l.length) (hx : x.ev e = some v) (hy : y.ev e = some (.int .i64 (k : Int))) :
    ∃ u, op1 ro e h (.slSl 2 x none (some y) none) = some (u, h) ∧ (∀ h', SlG h' v l → SlG h' u (l.take k)) ∧ Shape u := by
  have hkt : (l.take k).length = k := by simp; omega
  rcases hs with rfl | rfl | ⟨b, o, n, rfl⟩
  · obtain ⟨hl, _⟩ := hv
    have hl' : l = [] := List.eq_nil_of_length_eq_zero hl
    subst hl'
    have : k = 0 := by simpa using hk
    subst this
    exact ⟨.nsl, by simp [op1, hx, hy, evO, bound], fun _ _ => ⟨rfl, rfl⟩, .inl rfl⟩
  · obtain ⟨hl, _⟩ := hv
    have hl' : l = [] := List.eq_nil_of_length_eq_zero hl
    subst hl'
    have : k = 0 := by simpa using hk
    subst this
    exact ⟨.esl, by simp [op1, hx, hy, evO, bound], fun _ _ => ⟨rfl, rfl⟩, .inr (.inl rfl)⟩
  · obtain ⟨rfl, hsh⟩ := hv
    obtain ⟨L, hg, _, _⟩ := shown_spec hsh
    have hz : zIs h b 2 = true := by simp [zIs, hg]
    by_cases h0 : 0 < l.length
    · refine ⟨.sl b o k 0, ?_, fun h' hv' => ?_, .inr (.inr ⟨_, _, _, rfl⟩)⟩
      · simp [op1, hx, hy, evO, bound, hz, hk, h0]
      · obtain ⟨L, hg, hle, hfl⟩ := shown_spec hv'.2
        refine ⟨hkt.symm, ?_⟩
        rw [hkt, shown_mk hg (by omega), flat_take, hfl, List.take_take]
        congr 2
        omega
    · have hl' : l = [] := List.eq_nil_of_length_eq_zero (by omega)
      subst hl'
      have : k = 0 := by simpa using hk
      subst this
      exact ⟨.esl, by simp [op1, hx, hy, evO, bound, hz], fun _ _ => ⟨rfl, rfl⟩, .inr (.inl rfl)⟩

theorem OB_pre2 {v : V} {l : List Rg} {k : Nat} {x y : A} {Q : V × Hp → Prop} (hv : SlG h v l) (hs : Shape v) (hk : k ≤ l.length) (hx : x.ev e = some v) (hy : y.ev e = some (.int .i64 (k : Int)))
    (H : ∀ u, (∀ h', SlG h' v l → SlG h' u (l.take k)) → Shape u → Q (u, h)) : OB (op1 ro e h (.slSl 2 x none (some y) none)) Q := by
  obtain ⟨u, h1, h2, h3⟩ := sl_pre2 (ro := ro) hv hs hk hx hy
  rw [h1, OB_some]
  exact H u h2 h3

theorem refL_fine (l : List Rg) : Fine (refL l) := by
  unfold refL
  split
  · rename_i hok
    have hv : ∀ p ∈ l, 0 ≤ p.1 ∧ p.1 ≤ p.2 ∧ p.2 ≤ 1099511627776 := fun p hp => okR_le (List.all_eq_true.1 hok p hp)
    obtain ⟨hn, hm⟩ := canon_spec (l := l) fun p hp => (hv p hp).2.1
    intro p hp
    have h1 := hn.1 p hp
    obtain ⟨q, hq, g1, _⟩ := (hm p.1).1 ⟨p, hp, by omega, by omega⟩
    obtain ⟨q2, hq2, _, g2⟩ := (hm (p.2 - 1)).1 ⟨p, hp, by omega, by omega⟩
    have := hv q hq
    have := hv q2 hq2
    omega
  · intro p hp; cases hp

theorem refL_norm (l : List Rg) : Norm (refL l) := by
  unfold refL
  split
  · rename_i hok
    exact (canon_spec (l := l) fun p hp => (okR_le (List.all_eq_true.1 hok p hp)).2.1).1
  · exact ⟨fun p hp => (by cases hp), List.Pairwise.nil⟩

theorem refL_len (l : List Rg) : (refL l).length ≤ l.length := by
  unfold refL
  split
  · exact canon_le l
  · simp

theorem aft1 {h h2 : Hp} {x : V} {l : List Rg} {lo : Nat} (hw : ∀ b x, h.get b = some x → b < h.nx) (hs : SlG h2 x l) (ho : Own lo x) (hf : Fr h h2) :
    SlG (if ground x = true then h else h2) x l ∧ Fr h (if ground x = true then h else h2) := by
  rcases ho with rfl | ⟨b, o, n, rfl, hb⟩
  · have hl := List.eq_nil_of_length_eq_zero hs.1
    rw [hl]
    exact ⟨⟨rfl, rfl⟩, Fr.refl hw⟩
  · exact ⟨hs, hf⟩

theorem aft3 {h h2 : Hp} {x y : V} {l : List Rg} {lo : Nat} {b : Bool} (hw : ∀ b x, h.get b = some x → b < h.nx) (hs : SlG h2 x l) (hsy : SlG h2 y l) (ho : Own lo x) (hoy : Own lo y) (hf : Fr h h2) :
    SlG (if ground (.tup [.agg [x], y, .bool b]) = true then h else h2) x l ∧ SlG (if ground (.tup [.agg [x], y, .bool b]) = true then h else h2) y l ∧ Fr h (if ground (.tup [.agg [x], y, .bool b]) = true then h else h2) := by
  rcases ho with rfl | ⟨b1, o1, n1, rfl, _⟩
  · have hl := List.eq_nil_of_length_eq_zero hs.1
    subst hl
    rcases hoy with rfl | ⟨b2, o2, n2, rfl, _⟩
    · exact ⟨⟨rfl, rfl⟩, ⟨rfl, rfl⟩, Fr.refl hw⟩
    · exact ⟨hs, hsy, hf⟩
  · exact ⟨hs, hsy, hf⟩

set_option maxHeartbeats 1000000 in
theorem ev13 {v : V} {l : List Rg} (hf13 : fs 11 = some (.code F11)) (hf32 : fs 28 = some (.code F28)) (hf26 : fs 15 = some (.code F15)) (hf34 : fs 31 = some (.code F31)) (hf52 : fs 51 = some (.code F51)) (hf43 : fs 32 = some (.code F32)) (hf44 : fs 33 = some (.code F33)) (hf45 : fs 34 = some (.code F34)) (hf46 : fs 35 = some (.orc (orcSort 36))) (hf25 : fs 39 = some (.code F39))
    (hf33 : fs 29 = some (.code F29)) (hf37 : fs 50 = some (.code F50)) (hf12 : fs 9 = some (.code F9)) (hf28 : fs 24 = some (.code F24)) (hf29 : fs 17 = some (.code F17)) (hf30 : fs 18 = some (.code F18)) (hf31 : fs 25 = some (.code F25))
    (hv : SlG h v l) (hsh : Shape v) (hw : ∀ b x, h.get b = some x → b < h.nx) (hro : ro ≤ h.nx) {Q : V → Hp → Prop}
    (hq : ∀ x y h', SlG h' x (refL (l.take 60)) → SlG h' y (refL (l.take 60)) → Own h.nx x → Own h.nx y → Fr h h' → Q (.tup [.agg [x], y, .bool true]) h') : Ev fs ro 11 [v] h Q := by
  have hlen := hv.lenV
  refine Ev_fn hf13 rfl rfl rfl rfl ?_
  have hf1 : Fr h (h.new (.cells 0 [.nsl])) := (Fr.refl hw).new _
  have hg1 : (h.new (.cells 0 [.nsl])).get h.nx = some (.cells 0 [.nsl]) := Hp.get_new_same
  refine WP_seq ?_
  refine WP_reg ?_
  refine WPO_op rfl ?_
  simp
  refine WPO_op rfl ?_
  simp
  refine WPO_op rfl ?_
  simp
  refine WPO_nil ?_
  simp
  have hnx1 : h.nx < (h.new (.cells 0 [.nsl])).nx := by simp
  generalize (h.new (.cells 0 [.nsl])) = h1 at *
  have hv1 : SlG h1 v l := Sl.fr hf1 hv
  refine WP_seq ?_
  refine WP_reg ?_
  refine WPO_op rfl ?_
  simp
  refine WPO_op rfl ?_
  simp
  refine WPO_op rfl ?_
  simp [hlen]
  refine WPO_op rfl ?_
  simp [mins, fold2, min2]
  refine WPO_op rfl ?_
  refine OB_pre2 (k := min l.length 60) hv1 hsh (by omega) rfl (by
    simp
    split <;> omega) fun u huv hsu => ?_
  have ht60 : l.take (min l.length 60) = l.take 60 := by
    rw [Nat.min_comm]
    rcases Nat.le_total 60 l.length with h3 | h3
    · rw [Nat.min_eq_left h3]
    · rw [Nat.min_eq_right h3, List.take_length, List.take_of_length_le h3]
  rw [ht60] at huv
  have hl60 : (l.take 60).length ≤ 60 := by simp; omega
  have huv' : ∀ h', Fr h h' → SlG h' u (l.take 60) := fun h' hf' => huv h' (Sl.fr hf' hv)
  have hu := huv' h1 hf1
  clear hv1 hv hlen ht60 hsh huv
  generalize l.take 60 = k at *
  simp
  refine WPO_op rfl ?_
  simp
  refine WPO_nil ?_
  simp
  refine WP_seq ?_
  refine WP_reg ?_
  refine WPO_op rfl ?_
  simp
  refine WPO_call (g := 28) (a := []) (b := []) (args := [u]) rfl rfl ?_
  simp
  refine ev32 hf32 hu hf1.wf (Nat.le_refl _) hl60 fun a h2 hsa hoa hfa => ?_
  obtain ⟨hsA, hfA⟩ := aft1 hf1.wf hsa hoa hfa
  generalize (if ground a = true then h1 else h2) = hA at *
  refine WPO_call (g := 15) (a := []) (b := []) (args := [a]) rfl rfl ?_
  simp
  refine ev26 hf26 hf34 hf52 hf43 hf44 hf45 hf46 hf25 hsA hfA.wf (Nat.le_refl _) (by omega) fun x h3 hsx hox hfx => ?_
  obtain ⟨hsX, hfX⟩ := aft (k := .i64) (n := ofE k) hfA.wf hsx hox hfx (.inl rfl)
  generalize (if ground (V.tup [V.agg [x], V.int .i64 (ofE k)]) = true then hA else h3) = hX at *
  have hf1X := hfA.trans hfX
  have hgX := hf1X.sub _ _ hg1
  have huX : SlG hX u k := Sl.fr hf1X hu
  obtain ⟨hxc1, hxc2⟩ := hox.cells
  refine WPO_op rfl ?_
  simp
  refine WPO_op rfl ?_
  simp [op1]
  refine WPO_op rfl ?_
  simp [op1]
  refine WPO_op rfl ?_
  refine OB_store (b := h.nx) (o := 0) (v := V.agg [x]) (l' := [x]) rfl rfl (by omega) rfl (by simp [V.cells, hxc2]) hgX rfl ?_
  have hoX : Own (h.nx + 1) x := hox.mono (by have := hfA.nx; omega)
  have hsY : SlG (hX.set h.nx (.cells 0 [x])) x (ofL k) := Sl.set_ne hsX hoX (by omega) _
  have hgY : (hX.set h.nx (.cells 0 [x])).get h.nx = some (.cells 0 [x]) := Hp.get_set_same hgX
  have hfY : Fr h (hX.set h.nx (.cells 0 [x])) := (hf1.trans hf1X).set hw (Nat.le_refl _) hgX _
  have huY : SlG (hX.set h.nx (.cells 0 [x])) u k := by
    exact huv' _ hfY
  generalize (hX.set h.nx (.cells 0 [x])) = hY at *
  clear hgX huX hsX
  simp
  repeat (first | (refine WPO_op rfl ?_; simp) | (refine WPO_nil ?_; simp))
  refine WP_seq ?_
  refine WP_reg ?_
  refine WPO_op rfl ?_
  simp
  refine WPO_call (g := 29) (a := []) (b := []) (args := [u]) rfl rfl ?_
  simp
  refine ev33 hf33 hf37 huY hfY.wf (Nat.le_refl _) (by omega) fun y h4 hsy hoy hfy => ?_
  obtain ⟨hsR, hfR⟩ := aft (k := .i64) (n := ofE k) hfY.wf hsy hoy hfy (.inr rfl)
  generalize (if ground (V.tup [y, V.int .i64 (ofE k)]) = true then hY else h4) = hR at *
  have hgR := hfR.sub _ _ hgY
  have hsxR : SlG hR x (ofL k) := Sl.fr hfR hsY
  rw [ofL_ref] at hsxR
  refine WPO_op rfl ?_
  simp
  refine WPO_op rfl ?_
  simp [op1]
  refine WPO_op rfl ?_
  simp [op1]
  repeat (first | (refine WPO_op rfl ?_; simp) | (refine WPO_nil ?_; simp))
  refine WP_seq ?_
  refine WP_reg ?_
  repeat (first | (refine WPO_op rfl ?_; simp [loadV_ptr hgR, loadN]; done) | (refine WPO_op rfl ?_; simp [loadV_ptr hgR, loadN]) | (refine WPO_gop rfl ?_; simp [loadV_ptr hgR, loadN]))
  refine WPO_gcall ?_
  simp
  refine WPO_call (g := 9) (a := []) (b := []) (args := [.agg [x], y]) rfl rfl ?_
  simp
  have hfhR := hfY.trans hfR
  refine ev12 hf12 hf28 hf45 hf29 hf30 hf31 hsxR hxc1 hsR hfhR.wf (by have := refL_len k; omega) (refL_fine k) fun h5 => ?_
  simp
  refine WPO_op rfl ?_
  simp
  refine WPO_op rfl ?_
  simp
  refine WPO_op rfl ?_
  refine OB_store (b := h.nx) (o := 0) (v := V.agg [x]) (l' := [x]) rfl rfl (by omega) rfl (by simp [V.cells, hxc2]) hgR rfl ?_
  have hoY : Own (h.nx + 1) y := hoy.mono (by have := (hf1.trans hf1X).nx; have := hfY.wf _ _ hgY; omega)
  have hs1 : SlG (hR.set h.nx (.cells 0 [x])) x (refL k) := Sl.set_ne hsxR hoX (by omega) _
  have hs2 : SlG (hR.set h.nx (.cells 0 [x])) y (refL k) := Sl.set_ne hsR hoY (by omega) _
  have hg2 : (hR.set h.nx (.cells 0 [x])).get h.nx = some (.cells 0 [x]) := Hp.get_set_same hgR
  have hf2 : Fr h (hR.set h.nx (.cells 0 [x])) := hfhR.set hw (Nat.le_refl _) hgR _
  generalize (hR.set h.nx (.cells 0 [x])) = hZ at *
  simp
  repeat (first | (refine WPO_op rfl ?_; simp) | (refine WPO_nil ?_; simp))
  simp [WP_ret, F11, loadV_ptr hg2, loadN, pack]
  exact hq x y hZ hs1 hs2 (hoX.mono (Nat.le_succ _)) (hoY.mono (Nat.le_succ _)) hf2

end Go.Am.SZ
