/- The making of a set out of ranges: are they valid, a copy of them, their sorting. -/
import Derived.Test.YtochmoadmdmcbaaDoorAmX12
import Derived.Test.YtochmoadmdmcbaaDoorAmP1
import Derived.Test.YtochmoadmdmcbaaDoorAm25
namespace Go.Am.S7
open Go
set_option maxRecDepth 100000
variable {fs : Nat → Option D} {ro : Nat} {h : Hp}

def okR (p : Int × Int) : Bool := decide (0 ≤ p.1) && decide (p.1 ≤ p.2) && decide (p.2 ≤ 1099511627776)

theorem ev44 {p : Int × Int} (hf : fs 44 = some (.code F44)) {Q : V → Hp → Prop} (hq : ∀ h', Q (.bool (okR p)) h') : Ev fs ro 44 [.agg [.int .i64 p.1, .int .i64 p.2]] h Q := by
  refine Ev_fn hf rfl rfl rfl rfl ?_
  have hg1 : (h.new (.cells 0 [.int .i64 p.1, .int .i64 p.2])).get h.nx = some (.cells 0 [.int .i64 p.1, .int .i64 p.2]) := Hp.get_new_same
  refine WP_seq ?_
  refine WP_reg ?_
  refine WPO_op rfl ?_
  simp [V.cells]
  refine WPO_op rfl ?_
  simp
  refine WPO_nil ?_
  simp
  refine WP_seq ?_
  refine WP_reg ?_
  have hh := hq (h.new (.cells 0 [.int .i64 p.1, .int .i64 p.2]))
  by_cases c1 : 0 ≤ p.1 <;> by_cases c2 : p.1 ≤ p.2 <;> by_cases c3 : p.2 ≤ 1099511627776 <;>
    (simp [okR, c1, c2, c3] at hh
     repeat (first | (refine WPO_op rfl ?_; simp [loadV_ptr hg1, c1, c2, c3]; done) | (refine WPO_op rfl ?_; simp [loadV_ptr hg1, c1, c2, c3]) | (refine WPO_gop rfl ?_; simp [loadV_ptr hg1, c1, c2, c3]) | (refine WPO_nil ?_; simp))
     simp [WP_ret, F44]
     exact hh)

theorem ev43 {p : Int × Int} (hf43 : fs 43 = some (.code F43)) (hf : fs 44 = some (.code F44)) {Q : V → Hp → Prop} (hq : ∀ h', Q (.bool (!okR p)) h') : Ev fs ro 43 [.agg [.int .i64 p.1, .int .i64 p.2]] h Q := by
  refine Ev_fn hf43 rfl rfl rfl rfl ?_
  have hg1 : (h.new (.cells 0 [.int .i64 p.1, .int .i64 p.2])).get h.nx = some (.cells 0 [.int .i64 p.1, .int .i64 p.2]) := Hp.get_new_same
  refine WP_seq ?_
  refine WP_reg ?_
  refine WPO_op rfl ?_
  simp [V.cells]
  refine WPO_op rfl ?_
  simp
  refine WPO_nil ?_
  simp
  refine WP_seq ?_
  refine WP_reg ?_
  refine WPO_op rfl ?_
  simp [loadV_ptr hg1, loadN_all]
  refine WPO_call (g := 44) (a := []) (b := []) (args := [.agg [.int .i64 p.1, .int .i64 p.2]]) rfl rfl ?_
  simp
  refine ev44 hf fun h' => ?_
  simp
  repeat (first | (refine WPO_op rfl ?_; simp) | (refine WPO_nil ?_; simp))
  simp [WP_ret, F43]
  exact hq _

def nhf (f : Int × Int → Bool) (l : List (Int × Int)) (i : Nat) : Prop := (l.take i).any f = false

theorem ev52g {v : V} {l : List (Int × Int)} {g : Nat} {cp : List V} {f : Int × Int → Bool} (hf : fs 52 = some (.code F52)) (hv : SlG h v l) (hcl : ∀ (p : Int × Int) {Q : V → Hp → Prop}, (∀ h', Q (.bool (f p)) h') → Ev fs h.nx g (.agg [.int .i64 p.1, .int .i64 p.2] :: cp) h Q) (hw : ∀ b x, h.get b = some x → b < h.nx) (hn : l.length ≤ 1000000) {Q : V → Hp → Prop}
    (hq : ∀ n h', (decide (n ≥ (0 : Int)) = l.any f) → Q (.int .i64 n) h') : Ev fs ro 52 [v, .fn (.func g) [] cp] h Q := by
  have hlen := hv.lenV
  refine Ev_fn hf rfl rfl rfl rfl ?_
  repeat (first | refine WP_seq ?_ | refine WP_reg ?_ | (refine WPO_op rfl ?_; simp [hlen]) | (refine WPO_nil ?_; simp))
  refine WP_block ?_
  refine WP_loop (fun m e h1 => ∃ i, m = l.length - i ∧ i ≤ l.length ∧ nhf f l i ∧ h = h1 ∧ e = [(0, v), (1, .fn (.func g) [] cp), (7, .int .i64 l.length), (8, .int .i64 i)]) l.length ⟨0, by simp, by omega, by simp [nhf], rfl, rfl⟩ ?_
  rintro m e h1 ⟨i, rfl, hi, hany, rfl, rfl⟩
  refine WP_seq ?_
  refine WP_reg ?_
  repeat (first | (refine WPO_op rfl ?_; simp) | (refine WPO_nil ?_; simp))
  refine WP_seq ?_
  refine WP_cond rfl ⟨fun ht => ?_, fun ht => ?_⟩
  · have hi' : i < l.length := by simpa using ht
    have hwr : IntKind.wrap .i64 ((i : Int) + 1) = (i : Int) + 1 := wrap_i64 (by omega) (by omega)
    obtain ⟨b, o, c, L, rfl, hgb, q1, q2⟩ := SlG.at hv (List.getElem?_eq_getElem hi')
    simp only [WP_skip, nrmOr_nrm]
    refine WP_mid (fun e' h' => h = h' ∧ f l[i] = false ∧ e'.get 0 = some (V.sl b o l.length c) ∧ e'.get 1 = some (.fn (.func g) [] cp) ∧ e'.get 7 = some (.int .i64 l.length) ∧ e'.get 8 = some (.int .i64 i)) ?_ ?_
    rotate_left
    · rintro e' h' ⟨rfl, hp, e0, e1, e7, e8⟩
      repeat (first | refine WP_reg ?_ | (refine WPO_op rfl ?_; simp [e8]) | (refine WPO_nil ?_; simp [e0, e1, e7, e8]))
      refine ⟨l.length - (i + 1), by omega, i + 1, rfl, by omega, ?_, ?_⟩
      · unfold nhf at hany ⊢
        rw [List.take_succ_eq_append_getElem hi', List.any_append, hany]
        simp only [List.any_cons, List.any_nil, hp, Bool.or_false]
      · rw [hwr]
        omega
    refine WP_block ?_
    refine WP_seq ?_
    refine WP_reg ?_
    repeat (first | (refine WPO_op rfl ?_; simp) | (refine WPO_nil ?_; simp))
    refine WP_seq ?_
    refine WP_reg ?_
    repeat (first | (refine WPO_op rfl ?_; simp [hi', loadV_ptr hgb, loadN_two q1 q2]) | (refine WPO_nil ?_; simp))
    refine WPO_call (g := g) (a := []) (b := cp) (args := [.agg [.int .i64 l[i].1, .int .i64 l[i].2]]) rfl rfl ?_
    simp
    refine hcl _ fun h' => ?_
    simp
    refine WPO_nil ?_
    simp
    refine WP_cond rfl ⟨fun hd => ?_, fun hd => ?_⟩
    · refine WP_seq ?_
      refine WP_reg ?_
      repeat (first | (refine WPO_op rfl ?_; simp) | (refine WPO_nil ?_; simp))
      simp [WP_ret, F52]
      refine hq i h ?_
      have : l.any f = true := List.any_eq_true.2 ⟨l[i], List.getElem_mem hi', hd⟩
      simp [this]
    · simp only [WP_skip, blkQ_nrm, nrmOr_nrm]
      exact ⟨trivial, hd, by simp⟩
  · have hi' : i = l.length := by
      have : ¬ (i < l.length) := by simpa using ht
      omega
    subst hi'
    simp only [WP_exit, nrmOr_exit, blkQ_exit, if_pos, nrmOr_nrm, blkQ_nrm]
    repeat (first | refine WP_seq ?_ | refine WP_reg ?_ | (refine WPO_op rfl ?_; simp) | (refine WPO_nil ?_; simp))
    simp [WP_ret, F52]
    refine hq (-1) h ?_
    unfold nhf at hany
    rw [List.take_length] at hany
    rw [hany]
    rfl

theorem ev34g {v : V} {l : List (Int × Int)} {g : Nat} {cp : List V} {f : Int × Int → Bool} (hf34 : fs 34 = some (.code F34)) (hf : fs 52 = some (.code F52)) (hv : SlG h v l) (hcl : ∀ (p : Int × Int) {Q : V → Hp → Prop}, (∀ h', Q (.bool (f p)) h') → Ev fs h.nx g (.agg [.int .i64 p.1, .int .i64 p.2] :: cp) h Q) (hw : ∀ b x, h.get b = some x → b < h.nx) (hn : l.length ≤ 1000000) {Q : V → Hp → Prop}
    (hq : ∀ h', Q (.bool (l.any f)) h') : Ev fs ro 34 [v, .fn (.func g) [] cp] h Q := by
  refine Ev_fn hf34 rfl rfl rfl rfl ?_
  repeat (first | refine WP_seq ?_ | refine WP_reg ?_ | (refine WPO_op rfl ?_; simp; done) | (refine WPO_op rfl ?_; simp) | (refine WPO_nil ?_; simp))
  refine WPO_call (g := 52) (a := []) (b := []) (args := [v, .fn (.func g) [] cp]) rfl rfl ?_
  simp
  refine ev52g hf hv hcl hw hn fun n h' hn' => ?_
  simp
  repeat (first | (refine WPO_op rfl ?_; simp) | (refine WPO_nil ?_; simp))
  simp [WP_ret, F34]
  have := hq h
  rw [← hn'] at this
  simpa using this

end Go.Am.S7
/- How the sorting compares two ranges. -/
namespace Go.Am.S7
open Go
set_option maxRecDepth 100000
variable {fs : Nat → Option D} {ro : Nat} {h : Hp}

theorem ev58 {a : Int} (hf : fs 58 = some (.code F58)) {Q : V → Hp → Prop} (hq : ∀ h', Q (.bool false) h') : Ev fs ro 58 [.int .i64 a] h Q := by
  refine Ev_fn hf rfl rfl rfl rfl ?_
  repeat (first | refine WP_seq ?_ | refine WP_reg ?_ | (refine WPO_op rfl ?_; simp) | (refine WPO_nil ?_; simp))
  simp [WP_ret, F58]
  exact hq _

theorem ev49 {a b : Int} (hf : fs 49 = some (.code F49)) (hf58 : fs 58 = some (.code F58)) {Q : V → Hp → Prop} (hq : ∀ h', Q (.int .i64 (Lib.compareInt a b)) h') : Ev fs ro 49 [.int .i64 a, .int .i64 b] h Q := by
  refine Ev_fn hf rfl rfl rfl rfl ?_
  refine WP_seq ?_
  refine WP_reg ?_
  repeat (first | (refine WPO_op rfl ?_; simp) | (refine WPO_nil ?_; simp))
  refine WP_seq ?_
  refine WP_reg ?_
  refine WPO_op rfl ?_
  simp
  refine WPO_call (g := 58) (a := []) (b := []) (args := [.int .i64 a]) rfl rfl ?_
  simp
  refine ev58 hf58 fun h1 => ?_
  simp
  repeat (first | (refine WPO_op rfl ?_; simp) | (refine WPO_nil ?_; simp))
  refine WP_seq ?_
  refine WP_reg ?_
  refine WPO_op rfl ?_
  simp
  refine WPO_call (g := 58) (a := []) (b := []) (args := [.int .i64 b]) rfl rfl ?_
  simp
  refine ev58 hf58 fun h1 => ?_
  simp
  repeat (first | (refine WPO_op rfl ?_; simp) | (refine WPO_nil ?_; simp))
  repeat (first | refine WP_seq ?_ | refine WP_reg ?_ | (refine WPO_op rfl ?_; simp) | (refine WPO_nil ?_; simp))
  refine WP_cond rfl ⟨fun hd => (by cases hd), fun _ => ?_⟩
  simp only [WP_skip, nrmOr_nrm]
  repeat (first | refine WP_seq ?_ | refine WP_reg ?_ | (refine WPO_op rfl ?_; simp) | (refine WPO_nil ?_; simp))
  refine WP_cond rfl ⟨fun hd => (by cases hd), fun _ => ?_⟩
  simp only [WP_skip, nrmOr_nrm]
  repeat (first | refine WP_seq ?_ | refine WP_reg ?_ | (refine WPO_op rfl ?_; simp) | (refine WPO_nil ?_; simp))
  refine WP_cond rfl ⟨fun hd => ?_, fun hd => ?_⟩
  · have h1 : a < b := by simpa using hd
    repeat (first | refine WP_seq ?_ | refine WP_reg ?_ | (refine WPO_op rfl ?_; simp) | (refine WPO_nil ?_; simp))
    simp [WP_ret, F49]
    have := hq h
    simpa [Lib.compareInt, h1] using this
  · have h1 : ¬ a < b := by simpa using hd
    simp only [WP_skip, nrmOr_nrm]
    repeat (first | refine WP_seq ?_ | refine WP_reg ?_ | (refine WPO_op rfl ?_; simp) | (refine WPO_nil ?_; simp))
    refine WP_cond rfl ⟨fun hd => ?_, fun hd => ?_⟩
    · have h2 : b < a := by simpa using hd
      repeat (first | refine WP_seq ?_ | refine WP_reg ?_ | (refine WPO_op rfl ?_; simp) | (refine WPO_nil ?_; simp))
      simp [WP_ret, F49]
      have := hq h
      simpa [Lib.compareInt, h1, h2] using this
    · have h2 : ¬ b < a := by simpa using hd
      simp only [WP_skip, nrmOr_nrm]
      repeat (first | refine WP_seq ?_ | refine WP_reg ?_ | (refine WPO_op rfl ?_; simp) | (refine WPO_nil ?_; simp))
      simp [WP_ret, F49]
      have := hq h
      simpa [Lib.compareInt, h1, h2] using this

theorem ev48 {a c : Int} {b k : Nat} (hf : fs 48 = some (.code F48)) (hg : h.get b = some (.cells 1 [.int .i64 a, .int .i64 c])) {Q : V → Hp → Prop} (hq : ∀ h', Q (.int .i64 (if a = 0 then c else a)) h') : Ev fs ro 48 [.sl b 0 2 k] h Q := by
  refine Ev_fn hf rfl rfl rfl rfl ?_
  repeat (first | refine WP_seq ?_ | refine WP_reg ?_ | (refine WPO_op rfl ?_; simp) | (refine WPO_nil ?_; simp))
  refine WP_block ?_
  refine WP_loop (fun m e h1 => ∃ i, m = 2 - i ∧ i ≤ 2 ∧ (1 ≤ i → a = 0) ∧ (2 ≤ i → c = 0) ∧ h = h1 ∧ e = [(3, .int .i64 0), (6, .sl b 0 2 k), (7, .int .i64 2), (8, .int .i64 (i : Nat))]) 2 ⟨0, by omega, by omega, fun h => by omega, fun h => by omega, rfl, rfl⟩ ?_
  rintro m e h1 ⟨i, rfl, hi, ha, hc, rfl, rfl⟩
  repeat (first | refine WP_seq ?_ | refine WP_reg ?_ | (refine WPO_op rfl ?_; simp) | (refine WPO_nil ?_; simp))
  refine WP_cond rfl ⟨fun hd => ?_, fun hd => ?_⟩
  · have h2 : i < 2 := by
      have : (i : Int) < 2 := by simpa using hd
      omega
    simp only [WP_skip, nrmOr_nrm]
    obtain ⟨x, hx, hx0, hx1⟩ : ∃ x, [V.int .i64 a, V.int .i64 c][i]? = some (.int .i64 x) ∧ (x ≠ 0 → (if a = 0 then c else a) = x) ∧ (x = 0 → (1 ≤ i + 1 → a = 0) ∧ (2 ≤ i + 1 → c = 0)) := by
      rcases Nat.lt_or_ge i 1 with h3 | h3
      · have : i = 0 := by omega
        subst this
        exact ⟨a, rfl, fun h => by rw [if_neg h], fun h => ⟨fun _ => h, fun h => by omega⟩⟩
      · have : i = 1 := by omega
        subst this
        exact ⟨c, rfl, fun _ => by rw [if_pos (ha (Nat.le_refl _))], fun h => ⟨fun _ => ha (Nat.le_refl _), fun _ => h⟩⟩
    have hwr : IntKind.wrap .i64 ((i : Int) + 1) = ((i + 1 : Nat) : Int) := by rw [wrap_i64 (by omega) (by omega)]; omega
    refine WP_mid (fun e' h' => h = h' ∧ x = 0 ∧ e'.get 3 = some (.int .i64 0) ∧ e'.get 6 = some (.sl b 0 2 k) ∧ e'.get 7 = some (.int .i64 2) ∧ e'.get 8 = some (.int .i64 (i : Nat))) ?_ ?_
    · refine WP_block ?_
      refine WP_seq ?_
      refine WP_reg ?_
      have hi2 : (i : Int) < 2 := by omega
      repeat (first | (refine WPO_op rfl ?_; simp [loadV_ptr hg, hx, hi2]; done) | (refine WPO_op rfl ?_; simp [loadV_ptr hg, hx, hi2]) | (refine WPO_nil ?_; simp))
      refine WP_seq ?_
      refine WP_reg ?_
      repeat (first | (refine WPO_op rfl ?_; simp) | (refine WPO_nil ?_; simp))
      refine WP_cond rfl ⟨fun hd => ?_, fun hd => ?_⟩
      · have hne : x ≠ 0 := by simpa using hd
        repeat (first | refine WP_seq ?_ | refine WP_reg ?_ | (refine WPO_op rfl ?_; simp) | (refine WPO_nil ?_; simp))
        simp [WP_ret, F48]
        have := hq h
        rwa [hx0 hne] at this
      · have he : x = 0 := by simpa using hd
        simp only [WP_skip, nrmOr_nrm, blkQ_nrm]
        exact ⟨trivial, he, rfl, rfl, rfl, rfl⟩
    rintro e' h' ⟨rfl, he, e3, e6, e7, e8⟩
    repeat (first | refine WP_reg ?_ | (refine WPO_op rfl ?_; simp [e8]) | (refine WPO_nil ?_; simp [e3, e6, e7, e8]))
    refine ⟨2 - (i + 1), by omega, i + 1, rfl, by omega, (hx1 he).1, (hx1 he).2, ?_⟩
    rw [hwr]
  · have h2 : i = 2 := by
      have : ¬ (i : Int) < 2 := by simpa using hd
      omega
    subst h2
    simp only [WP_exit, nrmOr_exit, blkQ_exit, if_pos, nrmOr_nrm, blkQ_nrm]
    repeat (first | refine WP_seq ?_ | refine WP_reg ?_ | (refine WPO_op rfl ?_; simp) | (refine WPO_nil ?_; simp))
    simp [WP_ret, F48]
    have := hq h
    rwa [if_pos (ha (by omega)), hc (Nat.le_refl _)] at this

theorem ev47 {x y : Int × Int} (hf : fs 47 = some (.code F47)) (hf48 : fs 48 = some (.code F48)) (hf49 : fs 49 = some (.code F49)) (hf58 : fs 58 = some (.code F58)) {Q : V → Hp → Prop} (hq : ∀ h', Q (.int .i64 (cfR x y)) h') :
    Ev fs ro 47 [.agg [.int .i64 x.1, .int .i64 x.2], .agg [.int .i64 y.1, .int .i64 y.2]] h Q := by
  refine Ev_fn hf rfl rfl rfl rfl ?_
  have hg1 : ((h.new (.cells 0 [.int .i64 x.1, .int .i64 x.2])).new (.cells 0 [.int .i64 y.1, .int .i64 y.2])).get h.nx = some (.cells 0 [.int .i64 x.1, .int .i64 x.2]) := by
    rw [Hp.get_new_ne (by simp)]; exact Hp.get_new_same
  have hg2 : ((h.new (.cells 0 [.int .i64 x.1, .int .i64 x.2])).new (.cells 0 [.int .i64 y.1, .int .i64 y.2])).get (h.nx + 1) = some (.cells 0 [.int .i64 y.1, .int .i64 y.2]) := Hp.get_new_same (h := h.new (.cells 0 [.int .i64 x.1, .int .i64 x.2]))
  refine WP_seq ?_
  refine WP_reg ?_
  refine WPO_op rfl ?_
  simp [V.cells]
  refine WPO_op rfl ?_
  simp [V.cells]
  refine WPO_op rfl ?_
  simp
  refine WPO_nil ?_
  simp
  generalize ((h.new (.cells 0 [.int .i64 x.1, .int .i64 x.2])).new (.cells 0 [.int .i64 y.1, .int .i64 y.2])) = h2 at *
  refine WP_seq ?_
  refine WP_reg ?_
  repeat (first | (refine WPO_op rfl ?_; simp [loadV_ptr hg1, loadV_ptr hg2]; done) | (refine WPO_op rfl ?_; simp [loadV_ptr hg1, loadV_ptr hg2]))
  refine WPO_call (g := 49) (a := []) (b := []) (args := [.int .i64 x.1, .int .i64 y.1]) rfl rfl ?_
  simp
  refine ev49 hf49 hf58 fun h' => ?_
  simp
  repeat (first | (refine WPO_op rfl ?_; simp [loadV_ptr hg1, loadV_ptr hg2]; done) | (refine WPO_op rfl ?_; simp [loadV_ptr hg1, loadV_ptr hg2]))
  refine WPO_call (g := 49) (a := []) (b := []) (args := [.int .i64 x.2, .int .i64 y.2]) rfl rfl ?_
  simp
  refine ev49 hf49 hf58 fun h' => ?_
  simp
  refine WPO_op rfl ?_
  simp [evParts, zeros, fill, V.cells, setN]
  refine WPO_call (g := 48) (a := []) (b := []) (args := [.sl h2.nx 0 2 3]) rfl rfl ?_
  simp
  refine ev48 hf48 (a := Lib.compareInt x.1 y.1) (c := Lib.compareInt x.2 y.2) Hp.get_new_same fun h' => ?_
  simp
  repeat (first | (refine WPO_op rfl ?_; simp) | (refine WPO_nil ?_; simp))
  simp [WP_ret, F47]
  exact hq _
end Go.Am.S7
