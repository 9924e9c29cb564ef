/- Slices cut and joined; the copy of the law's ranges. -/
import Derived.Test.YtochmoadmdmcbaaDoorAmX15
namespace Go.Am.S7
open Go
set_option maxRecDepth 100000
variable {fs : Nat → Option D} {ro : Nat} {h : Hp} {e : Env}

theorem flat_take : ∀ (l : List Rg) (k : Nat), flat (l.take k) = (flat l).take (k * 2)
  | [], k => by simp [flat]
  | (a, b) :: r, 0 => by simp [flat]
  | (a, b) :: r, k + 1 => by
    rw [List.take_succ_cons, show (k + 1) * 2 = k * 2 + 2 by omega]
    simp [flat, flat_take r k]
theorem flat_drop : ∀ (l : List Rg) (k : Nat), flat (l.drop k) = (flat l).drop (k * 2)
  | [], k => by simp [flat]
  | (a, b) :: r, 0 => by simp
  | (a, b) :: r, k + 1 => by
    rw [List.drop_succ_cons, show (k + 1) * 2 = k * 2 + 2 by omega]
    simp [flat, flat_drop r k]

/-- The first ranges of a slice. -/
theorem sl_pre {v : V} {l : List Rg} {k : Nat} {x y : A} (hv : SlG h v l) (hs : Shape v) (hk : k ≤ l.length) (hx : x.ev e = some v) (hy : y.ev e = some (.int .i64 (k : Int))) :
    ∃ u, op1 ro e h (.slSl 2 x none (some y) none) = some (u, h) ∧ SlG h u (l.take k) ∧ Shape u := by
  have hkt : (l.take k).length = k := by simp; omega
  rcases hs with rfl | rfl | ⟨b, o, n, rfl⟩
  · obtain ⟨hl, _⟩ := hv
    have hl' : l = [] := List.eq_nil_of_length_eq_zero hl
    subst hl'
    have : k = 0 := by simpa using hk
    subst this
    exact ⟨.nsl, by simp [op1, hx, hy, evO, bound], ⟨rfl, rfl⟩, .inl rfl⟩
  · obtain ⟨hl, _⟩ := hv
    have hl' : l = [] := List.eq_nil_of_length_eq_zero hl
    subst hl'
    have : k = 0 := by simpa using hk
    subst this
    exact ⟨.esl, by simp [op1, hx, hy, evO, bound], ⟨rfl, rfl⟩, .inr (.inl rfl)⟩
  · obtain ⟨rfl, hsh⟩ := hv
    obtain ⟨L, hg, hle, hfl⟩ := shown_spec hsh
    have hz : zIs h b 2 = true := by simp [zIs, hg]
    by_cases h0 : 0 < l.length
    · refine ⟨.sl b o k 0, ?_, ⟨hkt.symm, ?_⟩, .inr (.inr ⟨_, _, _, rfl⟩)⟩
      · simp [op1, hx, hy, evO, bound, hz, hk, h0]
      · rw [hkt, shown_mk hg (by omega), flat_take, hfl, List.take_take]
        congr 2
        omega
    · have hl' : l = [] := List.eq_nil_of_length_eq_zero (by omega)
      subst hl'
      have : k = 0 := by simpa using hk
      subst this
      exact ⟨.esl, by simp [op1, hx, hy, evO, bound, hz], ⟨rfl, rfl⟩, .inr (.inl rfl)⟩

/-- The last ranges of a slice. -/
theorem sl_suf {v : V} {l : List Rg} {k : Nat} {x y : A} (hv : SlG h v l) (hs : Shape v) (hk : k ≤ l.length) (hx : x.ev e = some v) (hy : y.ev e = some (.int .i64 (k : Int))) :
    ∃ u, op1 ro e h (.slSl 2 x (some y) none none) = some (u, h) ∧ SlG h u (l.drop k) ∧ Shape u := by
  have hkt : (l.drop k).length = l.length - k := by simp
  rcases hs with rfl | rfl | ⟨b, o, n, rfl⟩
  · obtain ⟨hl, _⟩ := hv
    have hl' : l = [] := List.eq_nil_of_length_eq_zero hl
    subst hl'
    have : k = 0 := by simpa using hk
    subst this
    exact ⟨.nsl, by simp [op1, hx, hy, evO, bound], ⟨rfl, rfl⟩, .inl rfl⟩
  · obtain ⟨hl, _⟩ := hv
    have hl' : l = [] := List.eq_nil_of_length_eq_zero hl
    subst hl'
    have : k = 0 := by simpa using hk
    subst this
    exact ⟨.esl, by simp [op1, hx, hy, evO, bound], ⟨rfl, rfl⟩, .inr (.inl rfl)⟩
  · obtain ⟨rfl, hsh⟩ := hv
    obtain ⟨L, hg, hle, hfl⟩ := shown_spec hsh
    have hz : zIs h b 2 = true := by simp [zIs, hg]
    by_cases h0 : k < l.length
    · refine ⟨.sl b (o + k * 2) (l.length - k) 0, ?_, ⟨hkt.symm, ?_⟩, .inr (.inr ⟨_, _, _, rfl⟩)⟩
      · simp [op1, hx, hy, evO, bound, hz, hk, h0]
      · rw [hkt, shown_mk hg (by omega), flat_drop, hfl, List.drop_take, List.drop_drop]
        congr 2
        omega
    · have hkl : k = l.length := by omega
      subst hkl
      refine ⟨.esl, ?_, by rw [List.drop_length]; exact ⟨rfl, rfl⟩, .inr (.inl rfl)⟩
      simp [op1, hx, hy, evO, bound, hz]

/-- append, whatever the slice that is appended. -/
theorem op1_appG {s x : A} {v y v' : V} {t : List Rg} {h' : Hp} (hs : s.ev e = some v) (hx : x.ev e = some y) (hy : SlG h y t) (ha : app ro h 2 16 v t.length (flat t) = some (v', h')) : op1 ro e h (.app 2 16 s x) = some (v', h') := by
  cases y <;> simp only [SlG, Sl] at hy
  · obtain ⟨rfl, hsh⟩ := hy
    exact op1_app hs hx hsh (flat_one t) ha
  · obtain ⟨hl, _⟩ := hy
    have hl' : t = [] := List.eq_nil_of_length_eq_zero hl
    subst hl'
    simpa [op1, hs, hx, flat] using ha
  · obtain ⟨hl, _⟩ := hy
    have hl' : t = [] := List.eq_nil_of_length_eq_zero hl
    subst hl'
    simpa [op1, hs, hx, flat] using ha

theorem Own.shape {lo : Nat} {v : V} (ho : Own lo v) : Shape v := by
  rcases ho with rfl | ⟨b, o, n, rfl, _⟩
  · exact .inl rfl
  · exact .inr (.inr ⟨_, _, _, rfl⟩)

theorem ev32 {v : V} {l : List Rg} (hf : fs 32 = some (.code F32)) (hv : SlG h v l) (hw : ∀ b x, h.get b = some x → b < h.nx) (hro : ro ≤ h.nx) (hn : l.length ≤ 60) {Q : V → Hp → Prop}
    (hq : ∀ x h', SlG h' x l → Own h.nx x → Fr h h' → Q x h') : Ev fs ro 32 [v] h Q := by
  have hlen := hv.lenV
  refine Ev_fn hf rfl rfl rfl rfl ?_
  repeat (first | refine WP_seq ?_ | refine WP_reg ?_ | (refine WPO_op rfl ?_; simp) | (refine WPO_nil ?_; simp))
  refine WP_block ?_
  refine WP_loop (fun m e h1 => ∃ i vo, m = l.length - i ∧ i ≤ l.length ∧ SlG h1 vo (l.take i) ∧ Own h.nx vo ∧ Fr h h1 ∧ e = [(0, v), (3, vo), (4, .int .i64 (i : Nat))]) l.length ⟨0, .nsl, by simp, by omega, ⟨by simp, rfl⟩, .inl rfl, Fr.refl hw, rfl⟩ ?_
  rintro m e h1 ⟨i, vo, rfl, hi, hvo, hown, hfr, rfl⟩
  refine WP_seq ?_
  refine WP_mid (fun e2 h2 => h1 = h2 ∧ e2 = [(0, v), (3, vo), (4, .int .i64 (i : Nat)), (12, .bool (decide (i < l.length)))]) ?_ ?_
  · refine WP_reg ?_
    by_cases c1 : i < l.length
    · have c2 : (i : Int) < 60 := by omega
      repeat (first | (refine WPO_op rfl ?_; simp [hlen, c1, c2]; done) | (refine WPO_op rfl ?_; simp [hlen, c1, c2]) | (refine WPO_gop rfl ?_; simp [c1, c2]) | (refine WPO_nil ?_; simp [c1, c2]))
    · repeat (first | (refine WPO_op rfl ?_; simp [hlen, c1]; done) | (refine WPO_op rfl ?_; simp [hlen, c1]) | (refine WPO_gop rfl ?_; simp [c1]) | (refine WPO_nil ?_; simp [c1]))
  rintro e2 h2 ⟨rfl, rfl⟩
  refine WP_cond rfl ⟨fun ht => ?_, fun ht => ?_⟩
  · have hi' : i < l.length := by simpa using ht
    obtain ⟨b, o, c, L, rfl, hg, q1, q2⟩ := SlG.at (h := h1) (l := l) (Sl.fr hfr hv) (List.getElem?_eq_getElem hi')
    have hwr : IntKind.wrap .i64 ((i : Int) + 1) = ((i + 1 : Nat) : Int) := by rw [wrap_i64 (by omega) (by omega)]; omega
    simp only [WP_skip, nrmOr_nrm]
    refine WP_mid (fun e' h' => ∃ vo3, SlG h' vo3 (l.take (i + 1)) ∧ Own h.nx vo3 ∧ Fr h h' ∧ e' = [(0, .sl b o l.length c), (3, vo3), (4, .int .i64 (i : Nat))]) ?_ ?_
    · refine WP_block ?_
      refine WP_reg ?_
      have hi2 : (i : Int) < (l.length : Int) := by omega
      repeat (first | (refine WPO_op rfl ?_; simp [loadV_ptr hg, q1, q2, hi']; done) | (refine WPO_op rfl ?_; simp [loadV_ptr hg, q1, q2, hi']))
      simp [evParts, fill, V.cells, setN]
      refine WPO_op rfl ?_
      simp [evParts, zeros, fill, V.cells, setN]
      obtain ⟨v', h', ha, hs, ho, hfa, hsh⟩ := app_range (p := l[i]) hw hro hfr hvo hown (by simp; omega)
      refine WPO_op rfl ?_
      rw [op1_app (v := vo) (b := h1.nx) (o := 0) (m := 1) (c := 2) (h' := h') rfl rfl hsh rfl ha]
      simp
      refine WPO_op rfl ?_
      simp
      refine WPO_nil ?_
      simp
      rw [List.take_succ_eq_append_getElem hi']
      exact ⟨v', hs, ho, hfa, rfl⟩
    rintro e' h' ⟨vo3, g1, g2, g3, rfl⟩
    repeat (first | refine WP_reg ?_ | (refine WPO_op rfl ?_; simp) | (refine WPO_nil ?_; simp))
    refine ⟨l.length - (i + 1), by omega, i + 1, rfl, by omega, vo3, g1, g2, g3, rfl, ?_⟩
    rw [hwr]
  · have hi' : i = l.length := by
      have : ¬ (i < l.length) := by simpa using ht
      omega
    subst hi'
    rw [List.take_length] at hvo
    simp only [WP_exit, nrmOr_exit, blkQ_exit, if_pos, nrmOr_nrm, blkQ_nrm]
    repeat (first | refine WP_seq ?_ | refine WP_reg ?_ | (refine WPO_op rfl ?_; simp) | (refine WPO_nil ?_; simp))
    simp [WP_ret, F32]
    exact hq _ _ hvo hown hfr
end Go.Am.S7
/- The reference's tidy, stepped through. -/
namespace Go.Am.S7
open Go
set_option maxRecDepth 100000
variable {fs : Nat → Option D} {ro : Nat} {h : Hp} {e : Env}

theorem OB_pre {v : V} {l : List Rg} {k : Nat} {x y : A} {Q : V × Hp → Prop} (hv : SlG h v l) (hs : Shape v) (hk : k ≤ l.length) (hx : x.ev e = some v) (hy : y.ev e = some (.int .i64 (k : Int)))
    (H : ∀ u, SlG h u (l.take k) → Shape u → Q (u, h)) : OB (op1 ro e h (.slSl 2 x none (some y) none)) Q := by
  obtain ⟨u, h1, h2, h3⟩ := sl_pre (ro := ro) hv hs hk hx hy
  rw [h1, OB_some]
  exact H u h2 h3
theorem OB_suf {v : V} {l : List Rg} {k : Nat} {x y : A} {Q : V × Hp → Prop} (hv : SlG h v l) (hs : Shape v) (hk : k ≤ l.length) (hx : x.ev e = some v) (hy : y.ev e = some (.int .i64 (k : Int)))
    (H : ∀ u, SlG h u (l.drop k) → Shape u → Q (u, h)) : OB (op1 ro e h (.slSl 2 x (some y) none none)) Q := by
  obtain ⟨u, h1, h2, h3⟩ := sl_suf (ro := ro) hv hs hk hx hy
  rw [h1, OB_some]
  exact H u h2 h3
theorem OB_appG {s x : A} {v y v' : V} {t : List Rg} {h' : Hp} {Q : V × Hp → Prop} (hs : s.ev e = some v) (hx : x.ev e = some y) (hy : SlG h y t) (ha : app ro h 2 16 v t.length (flat t) = some (v', h')) (H : Q (v', h')) : OB (op1 ro e h (.app 2 16 s x)) Q := by
  rw [op1_appG hs hx hy ha, OB_some]
  exact H

/-- What is appended to: a row of one's own, or the empty row. -/
def Nx (lo : Nat) (v : V) (t : List Rg) : Prop := Own lo v ∨ ∃ b, v = .sl b 0 0 1 ∧ t = []

theorem app_base {h0 h2 : Hp} {b : Nat} {t : List Rg} (hf : Fr h0 h2) (hs : shown h2 2 b 0 0 = some []) (ht : t.length ≤ 1000000) :
    ∃ v' h', app ro h2 2 16 (.sl b 0 0 1) t.length (flat t) = some (v', h') ∧ SlG h' v' t ∧ Nx h0.nx v' t ∧ Fr h0 h' := by
  by_cases h0' : t.length = 0
  · have ht' : t = [] := List.eq_nil_of_length_eq_zero h0'
    subst ht'
    exact ⟨.sl b 0 0 1, h2, by simp [app], ⟨rfl, hs⟩, .inr ⟨b, rfl, rfl⟩, hf⟩
  · refine ⟨.sl h2.nx 0 t.length 0, h2.new (.cells 2 (flat t)), ?_, Sl.ofNew (flat_len t), .inl (.inr ⟨_, _, _, rfl, hf.nx⟩), hf.new _⟩
    simp only [app]
    rw [if_neg h0', if_pos (by unfold roomMax; omega), if_neg (by omega), if_neg (by omega), hs]
    simp

theorem app_one {h0 h2 : Hp} {t : List Rg} {p : Rg} {vn : V} (hw0 : ∀ b x, h0.get b = some x → b < h0.nx) (hro : ro ≤ h0.nx) (hf : Fr h0 h2) (hv : SlG h2 vn t) (hN : Nx h0.nx vn t) (ht : t.length ≤ 1000000) :
    ∃ v' h', app ro (h2.new (.cells 2 [V.int .i64 p.1, V.int .i64 p.2])) 2 16 vn 1 [V.int .i64 p.1, V.int .i64 p.2] = some (v', h') ∧ SlG h' v' (t ++ [p]) ∧ Own h0.nx v' ∧ Fr h0 h' := by
  rcases hN with ho | ⟨b, rfl, rfl⟩
  · obtain ⟨v', h', h1, h2, h3, h4, _⟩ := app_range (p := p) hw0 hro hf hv ho ht
    exact ⟨v', h', h1, h2, h3, h4⟩
  · have hs := shown_fr ((Fr.refl hf.wf).new (.cells 2 [V.int .i64 p.1, V.int .i64 p.2])) hv.2
    obtain ⟨v', h', h1, h2, h3, h4⟩ := app_base (ro := ro) (t := [p]) (hf.new (.cells 2 [V.int .i64 p.1, V.int .i64 p.2])) hs (by simp)
    refine ⟨v', h', h1, h2, ?_, h4⟩
    rcases h3 with h3 | ⟨_, _, h3⟩
    · exact h3
    · cases h3

theorem app_many {h0 h2 : Hp} {a t : List Rg} {v : V} (hw0 : ∀ b x, h0.get b = some x → b < h0.nx) (hro : ro ≤ h0.nx) (hf : Fr h0 h2) (hv : SlG h2 v a) (ho : Own h0.nx v) (hl : a.length + t.length ≤ 1000000) :
    ∃ v' h', app ro h2 2 16 v t.length (flat t) = some (v', h') ∧ SlG h' v' (a ++ t) ∧ Own h0.nx v' ∧ Fr h0 h' := by
  by_cases h0' : t.length = 0
  · have ht' : t = [] := List.eq_nil_of_length_eq_zero h0'
    subst ht'
    rw [List.append_nil]
    refine ⟨v, h2, ?_, hv, ho, hf⟩
    rcases ho with rfl | ⟨b, o, n, rfl, _⟩
    · simp [app]
    · simp [app]
  · obtain ⟨v', h', h1, h2, h3, h4⟩ := app_sl (bytes := 16) (m := t.length) (news := flat t) hf hw0 hro hv ho (by omega) (flat_len t) (by unfold roomMax; omega) (by unfold roomMax; omega)
    refine ⟨v', h', h1, ?_, h3, h4⟩
    unfold SlG
    rw [flat_append, List.length_append]
    exact h2

theorem tw_split {a : Int} : ∀ (s : List Rg) (k : Nat), k ≤ s.length → (∀ p ∈ s.take k, p.1 < a) → (∀ p, s[k]? = some p → ¬ p.1 < a) →
    s.take k = s.takeWhile (fun p => decide (p.1 < a)) ∧ s.drop k = s.dropWhile (fun p => decide (p.1 < a))
  | [], k, _, _, _ => by simp
  | q :: s, 0, _, _, h2 => by
    have := h2 q rfl
    simp [this]
  | q :: s, k + 1, hk, h1, h2 => by
    have hq := h1 q (by simp)
    obtain ⟨g1, g2⟩ := tw_split s k (by simp at hk; omega) (fun p hp => h1 p (by simp [hp])) (fun p hp => h2 p (by simpa using hp))
    simp [hq, g1, g2]

theorem insS_snoc (l : List Rg) (r : Rg) : insS (l ++ [r]) = if r.1 = r.2 then insS l else ins (insS l) r := by
  simp [insS, List.foldl_append]
theorem ins_len (s : List Rg) (r : Rg) : (ins s r).length = s.length + 1 := by
  have : (s.takeWhile (fun p => decide (p.1 < r.1)) ++ s.dropWhile (fun p => decide (p.1 < r.1))).length = s.length := by rw [List.takeWhile_append_dropWhile]
  simp only [List.length_append] at this
  simp only [ins, List.length_append, List.length_cons]
  omega
theorem insS_le_go : ∀ (l s : List Rg), (l.foldl (fun s r => if r.1 = r.2 then s else ins s r) s).length ≤ s.length + l.length
  | [], s => by simp
  | r :: l, s => by
    have h1 := insS_le_go l (if r.1 = r.2 then s else ins s r)
    have h2 := ins_len s r
    simp only [List.foldl_cons, List.length_cons]
    split at h1 <;> simp_all <;> omega
theorem insS_le (l : List Rg) : (insS l).length ≤ l.length := by
  have := insS_le_go l []
  simpa [insS] using this
end Go.Am.S7
/- The program's functions, stepped through in the plain machine. -/
namespace Go.Am.S7
open Go
set_option maxRecDepth 100000
set_option linter.unusedSimpArgs false
set_option linter.unusedVariables false
variable {fs : Nat → Option D} {ro : Nat} {h : Hp} {e : Env}

/-- Where a range goes in. -/
theorem tidy_at {vs : V} {h1 : Hp} {s : List Rg} {b o c i n : Nat} {L : List V} {r : Rg} (hvs : SlG h1 vs s) (hs1000 : s.length ≤ 1000) (hg : h1.get b = some (.cells 2 L)) (hin : i < n) (q1 : L[o + i * 2]? = some (.int .i64 r.1)) {Q : X → Env → Hp → Prop}
    (hq : ∀ k e, k ≤ s.length → s.take k = s.takeWhile (fun p => decide (p.1 < r.1)) → s.drop k = s.dropWhile (fun p => decide (p.1 < r.1)) → e.get 0 = some (.sl b o n c) → e.get 3 = some vs → e.get 4 = some (.int .i64 (i : Nat)) → e.get 5 = some (.int .i64 (k : Nat)) → Q .nrm e h1) :
    WP fs ro (.block 2 (.loop (.seq (.seq (.reg .true (some [0, 3, 4, 5, 43]) [⟨(some 27), none, (.mov (.t 5))⟩, ⟨(some 28), none, (.mov (.t 3))⟩, ⟨(some 29), none, (.lenSl (.t 28))⟩, ⟨(some 30), none, (.bin .lss (.t 27) (.t 29))⟩, ⟨(some 31), none, (.mov (.t 30))⟩, ⟨(some 32), (some (31, .true)), (.mov (.t 3))⟩, ⟨(some 33), (some (31, .true)), (.mov (.t 5))⟩, ⟨(some 34), (some (31, .true)), (.idxA 2 (.t 32) (.t 33))⟩, ⟨(some 35), (some (31, .true)), (.fldA 0 (.t 34))⟩, ⟨(some 36), (some (31, .true)), (.load none (.t 35))⟩, ⟨(some 37), (some (31, .true)), (.mov (.t 0))⟩, ⟨(some 38), (some (31, .true)), (.mov (.t 4))⟩, ⟨(some 39), (some (31, .true)), (.idxA 2 (.t 37) (.t 38))⟩, ⟨(some 40), (some (31, .true)), (.fldA 0 (.t 39))⟩, ⟨(some 41), (some (31, .true)), (.load none (.t 40))⟩, ⟨(some 42), (some (31, .true)), (.bin .lss (.t 36) (.t 41))⟩, ⟨(some 43), none, (.pick (.t 31) (.t 42) (.c (.bool .false)))⟩]) (.cond (.t 43) .skip (.exit 2))) (.block 3 (.reg .false (some [0, 3, 4, 5]) [⟨(some 44), none, (.mov (.t 5))⟩, ⟨(some 45), none, (.bin .add (.t 44) (.c (.int .i64 1)))⟩, ⟨(some 5), none, (.mov (.t 45))⟩])))))
      [(0, .sl b o n c), (3, vs), (4, .int .i64 (i : Nat)), (5, .int .i64 0)] h1 Q := by
  have hlen := hvs.lenV
  refine WP_block ?_
  refine WP_loop (fun m e h2 => ∃ k, m = s.length - k ∧ k ≤ s.length ∧ (∀ p ∈ s.take k, p.1 < r.1) ∧ h1 = h2 ∧ e = [(0, .sl b o n c), (3, vs), (4, .int .i64 (i : Nat)), (5, .int .i64 (k : Nat))]) s.length ⟨0, by omega, by omega, fun p hp => by simp at hp, rfl, rfl⟩ ?_
  rintro m e h2 ⟨k, rfl, hk, hlt, rfl, rfl⟩
  refine WP_seq ?_
  have hfl : (L[o + i * 2]? : Option V) = some (.int .i64 r.1) := q1
  refine WP_mid (fun e2 h2 => h1 = h2 ∧ e2 = [(0, .sl b o n c), (3, vs), (4, .int .i64 (i : Nat)), (5, .int .i64 (k : Nat)), (43, .bool (match s[k]? with | some p => decide (p.1 < r.1) | none => false))]) ?_ ?_
  · refine WP_reg ?_
    by_cases c1 : k < s.length
    · obtain ⟨b2, o2, c2, L2, rfl, hg2, w1, w2⟩ := SlG.at hvs (List.getElem?_eq_getElem c1)
      have hsk : s[k]? = some s[k] := List.getElem?_eq_getElem c1
      rw [hsk]
      repeat (first | (refine WPO_op rfl ?_; simp [c1, loadV_ptr hg2, loadV_ptr hg, w1, hfl, hin]; done) | (refine WPO_op rfl ?_; simp [c1, loadV_ptr hg2, loadV_ptr hg, w1, hfl, hin]) | (refine WPO_gop rfl ?_; simp [c1, loadV_ptr hg2, loadV_ptr hg, w1, hfl, hin]) | (refine WPO_nil ?_; simp [c1]))
    · have hsk : s[k]? = none := List.getElem?_eq_none (by omega)
      rw [hsk]
      repeat (first | (refine WPO_op rfl ?_; simp [c1, hlen]; done) | (refine WPO_op rfl ?_; simp [c1, hlen]) | (refine WPO_gop rfl ?_; simp [c1]) | (refine WPO_nil ?_; simp [c1]))
  rintro e2 h2 ⟨rfl, rfl⟩
  refine WP_cond rfl ⟨fun ht => ?_, fun ht => ?_⟩
  · have hc1 : k < s.length := by
      rcases Nat.lt_or_ge k s.length with h3 | h3
      · exact h3
      · rw [List.getElem?_eq_none h3] at ht
        cases ht
    rw [List.getElem?_eq_getElem hc1] at ht
    have hlt2 : s[k].1 < r.1 := by simpa using ht
    have hwr : IntKind.wrap .i64 ((k : Int) + 1) = ((k + 1 : Nat) : Int) := by rw [wrap_i64 (by omega) (by omega)]; omega
    simp only [WP_skip, nrmOr_nrm]
    refine WP_block ?_
    repeat (first | refine WP_reg ?_ | (refine WPO_op rfl ?_; simp) | (refine WPO_nil ?_; simp))
    refine ⟨s.length - (k + 1), by omega, k + 1, rfl, by omega, fun a b hp => ?_, ?_⟩
    · rw [List.take_succ_eq_append_getElem hc1] at hp
      rcases List.mem_append.1 hp with hp | hp
      · exact hlt _ hp
      · simp at hp
        rw [← hp] at hlt2
        exact hlt2
    · rw [hwr]
  · simp only [WP_exit, nrmOr_exit, blkQ_exit, if_pos, nrmOr_nrm, blkQ_nrm]
    obtain ⟨g1, g2⟩ := tw_split (a := r.1) s k hk hlt (fun p hp => by
      rw [hp] at ht
      simpa using ht)
    exact hq k _ hk g1 g2 rfl rfl rfl rfl
end Go.Am.S7
