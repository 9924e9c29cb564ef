/- Functions of ranges, stepped through at the great seat: Of. -/
import Derived.Test.YtochmoadmdmcbaaGreatDoorAmZ1
import Derived.Test.YtochmoadmdmcbaaGreatDoorAm25
import Derived.Test.YtochmoadmdmcbaaGreatDoorAm21
import Derived.Lib.LaidU8
import Derived.Lib.AtoiErrMem
namespace Go.Am.SZ
set_option linter.unusedSimpArgs false
set_option linter.unusedVariables false
open Go Go.RowKit
set_option maxRecDepth 100000

theorem any_set {l : List (Int × Int)} {q x : Int × Int} (f : Int × Int → Bool) : ((l ++ [q]).set l.length x).any f = (l.any f || f x) := by
  simp

/-- The elements of the ranges are the places that differ. -/
theorem has_chg (a b : List Int) (i : Nat) : ∀ n, (mrgs (chs a b n)).any (hasP i) = (decide (i < n) && chg a b i) ∧ (∀ p ∈ mrgs (chs a b n), 0 ≤ p.1 ∧ p.1 ≤ p.2)
  | 0 => by simp [chs, mrgs]
  | n + 1 => by
    obtain ⟨ih, ih2⟩ := has_chg a b i n
    have hle := chs_le a b n
    unfold chs
    cases hc : chg a b n with
    | false =>
      simp only [Bool.false_eq_true, if_false]
      refine ⟨?_, ih2⟩
      rw [ih]
      by_cases h : i < n
      · have : i < n + 1 := by omega
        simp [h, this]
      · by_cases h2 : i = n
        · subst h2; simp [hc]
        · have : ¬ i < n + 1 := by omega
          simp [h, this]
    | true =>
      simp only [if_true]
      rw [mrgs_snoc]
      generalize mrgs (chs a b n) = out at *
      have hone : hasP i ((n : Int), (n : Int) + 1) = decide (i = n) := by
        unfold hasP
        by_cases h : i = n
        · subst h; simp; omega
        · by_cases h2 : i < n
          · have : ¬ ((n : Int) ≤ i) := by omega
            simp [h, this]
          · have : ¬ ((i : Int) < n + 1) := by omega
            simp [h, this]
      have hall : (decide (i < n + 1) && chg a b i) = ((decide (i < n) && chg a b i) || decide (i = n)) := by
        by_cases h : i = n
        · subst h; simp [hc]
        · by_cases h2 : i < n
          · have : i < n + 1 := by omega
            simp [h, h2, this]
          · have : ¬ i < n + 1 := by omega
            simp [h, h2, this]
      rcases List.eq_nil_or_concat out with rfl | ⟨init, q, rfl⟩
      · have hm : mrg [] ((n : Int), (n : Int) + 1) = [((n : Int), (n : Int) + 1)] := by simp [mrg]; omega
        rw [hm, hall, ← ih]
        refine ⟨by simp [hone], fun p hp => ?_⟩
        simp at hp; subst hp; simp; omega
      · rw [List.concat_eq_append] at *
        have hqi := hle q (by simp)
        have hq2 := ih2 q (by simp)
        by_cases he : q.2 = n
        · have hm : mrg (init ++ [q]) ((n : Int), (n : Int) + 1) = (init ++ [q]).set init.length (q.1, (n : Int) + 1) := by
            have : (n : Int) < n + 1 := by omega
            simp [mrg, he, this]
            omega
          rw [hm, any_set, hall, ← ih, List.any_append]
          have hj : hasP i (q.1, (n : Int) + 1) = (hasP i q || decide (i = n)) := by
            unfold hasP
            by_cases h : i = n
            · subst h
              have : q.1 ≤ (i : Int) := by omega
              simp [this]; omega
            · have e1 : (decide ((i : Int) < (n : Int) + 1)) = decide ((i : Int) < q.2) := by
                by_cases h2 : (i : Int) < q.2
                · have : (i : Int) < (n : Int) + 1 := by omega
                  rw [decide_eq_true h2, decide_eq_true this]
                · have : ¬ (i : Int) < (n : Int) + 1 := by omega
                  rw [decide_eq_false h2, decide_eq_false this]
              simp [h, e1]
          refine ⟨by rw [hj]; simp [Bool.or_assoc], fun p hp => ?_⟩
          rcases List.mem_or_eq_of_mem_set hp with h | h
          · exact ih2 p h
          · subst h; simp; omega
        · have hm : mrg (init ++ [q]) ((n : Int), (n : Int) + 1) = (init ++ [q]) ++ [((n : Int), (n : Int) + 1)] := by
            have h1 : ¬ ((n : Int) ≤ q.2) := by omega
            have : (n : Int) < n + 1 := by omega
            simp [mrg, h1, this]
          rw [hm, List.any_append, hall, ← ih]
          refine ⟨by simp [hone], fun p hp => ?_⟩
          rcases List.mem_append.1 hp with h | h
          · exact ih2 p h
          · simp at h; subst h; simp; omega
open Go Go.RowKit
set_option maxRecDepth 100000
variable {fs : Nat → Option D} {ro : Nat} {e : Env} {h : Hp}

def Shape (v : V) : Prop := v = .nsl ∨ v = .esl ∨ ∃ b o n, v = .sl b o n 0

theorem slice300 {v : V} {l : List Int} {x y : A} (hv : SlI h v l) (hs : Shape v) (hx : x.ev e = some v) (hy : y.ev e = some (.int .i64 (if 300 < l.length then 300 else (l.length : Int)))) :
    ∃ v', op1 ro e h (.slSl 1 x none (some y) none) = some (v', h) ∧ SlI h v' (l.take 300) := by
  rcases hs with rfl | rfl | ⟨b, o, n, rfl⟩
  · obtain ⟨h1, _⟩ := hv
    have hl : l = [] := List.eq_nil_of_length_eq_zero h1
    subst hl
    exact ⟨.nsl, by simp [op1, hx, hy, bound], ⟨rfl, rfl⟩⟩
  · obtain ⟨h1, _⟩ := hv
    have hl : l = [] := List.eq_nil_of_length_eq_zero h1
    subst hl
    exact ⟨.esl, by simp [op1, hx, hy, bound], ⟨rfl, rfl⟩⟩
  · obtain ⟨rfl, hsh⟩ := hv
    obtain ⟨L, hg, hle, hL⟩ := shown_spec hsh
    have hz : zIs h b 1 = true := by simp [zIs, hg]
    have hlen : (l.take 300).length = if 300 < l.length then 300 else l.length := by rw [List.length_take]; split <;> omega
    by_cases h0 : 0 < l.length
    · refine ⟨.sl b o (l.take 300).length 0, ?_, ⟨rfl, ?_⟩⟩
      · simp only [op1, hx, hy, evO, hz, Option.bind_some, if_true, bound]
        rw [hlen]
        split
        · rename_i h1
          simp
          rw [if_pos (by omega)]; rfl
        · rename_i h1
          simp
      · rw [shown_mk hg (by rw [List.length_take]; omega), intsV, List.map_take]
        have e2 : List.map (V.int IntKind.u8) l = (L.drop o).take (l.length * 1) := hL
        rw [e2, List.take_take]
        simp
    · have hl : l = [] := List.eq_nil_of_length_eq_zero (by omega)
      subst hl
      refine ⟨.esl, ?_, ⟨rfl, rfl⟩⟩
      simp [op1, hx, hy, evO, hz, bound]

def strOf (l : List Int) : List UInt8 := l.map fun n => UInt8.ofNat n.toNat

theorem bytesOf_ints : ∀ l : List Int, bytesOf (intsV .u8 l) = some (strOf l)
  | [] => rfl
  | n :: r => by
    have := bytesOf_ints r
    simp only [intsV, strOf] at this ⊢
    simp [bytesOf, this]

theorem ofBytes {v : V} {l : List Int} {x : A} (hv : SlI h v l) (hx : x.ev e = some v) : op1 ro e h (.conv .ofBytes x) = some (.str (strOf l), h) := by
  cases v <;> simp only [SlI, Sl] at hv
  case nsl =>
    have hl : l = [] := List.eq_nil_of_length_eq_zero hv.1
    subst hl
    simp [op1, hx, strOf]
  case esl =>
    have hl : l = [] := List.eq_nil_of_length_eq_zero hv.1
    subst hl
    simp [op1, hx, strOf]
  case sl b o n c =>
    obtain ⟨rfl, hsh⟩ := hv
    simp [op1, hx, hsh, bytesOf_ints]

/-- known, as an answer that stands for itself. -/
def orcKnown (_ : Nat) (args : List V) (h : Hp) : Option (V × Hp) :=
  match args with
  | [] => some (.bool true, h)
  | _ => none

theorem fine_chs (a b : List Int) (n : Nat) (hn : n ≤ 1000000) : Fine (mrgs (chs a b n)) := fun p hp => by
  have h1 := (has_chg a b 0 n).2 p hp
  have h2 := chs_le a b n p hp
  exact ⟨h1.1, h1.2, by omega⟩

theorem app_byte {h0 h2 : Hp} {out : List Int} {x : Int} {vo : V} (hw0 : ∀ b x, h0.get b = some x → b < h0.nx) (hro : ro ≤ h0.nx) (hfr : Fr h0 h2) (hvo : SlI h2 vo out) (hown : Own h0.nx vo) (hlen : out.length ≤ 1000000) :
    ∃ v' h', app ro (h2.new (.cells 1 [V.int .u8 x])) 1 1 vo 1 [V.int .u8 x] = some (v', h') ∧ SlI h' v' (out ++ [x]) ∧ Own h0.nx v' ∧ Fr h0 h' ∧
      shown (h2.new (.cells 1 [V.int .u8 x])) 1 h2.nx 0 1 = some [V.int .u8 x] := by
  have hfr3 : Fr h0 (h2.new (.cells 1 [V.int .u8 x])) := hfr.new _
  have hvo3 : SlI (h2.new (.cells 1 [V.int .u8 x])) vo out := Sl.fr ((Fr.refl hfr.wf).new _) hvo
  obtain ⟨v', h', ha, hs, ho, hf⟩ := app_sl (bytes := 1) (m := 1) (news := [V.int .u8 x]) hfr3 hw0 hro hvo3 hown (by omega) rfl (by unfold roomMax; omega) (by unfold roomMax; omega)
  refine ⟨v', h', ha, ?_, ho, hf, ?_⟩
  · unfold SlI
    rw [intsV, List.map_append, List.length_append]
    exact hs
  · exact (Sl.ofNew (h := h2) (sz := 1) (n := 1) (c := 2) (l := [V.int .u8 x]) rfl).2
open Go Go.RowKit
set_option maxRecDepth 100000
variable {fs : Nat → Option D} {ro : Nat} {h : Hp}

theorem aft {h h2 : Hp} {x y : V} {l : List (Int × Int)} {lo : Nat} (hw : ∀ b x, h.get b = some x → b < h.nx) (hs : SlG h2 x l) (ho : Own lo x) (hf : Fr h h2) (hy : y = .agg [x] ∨ y = x) {k : IntKind} {n : Int} :
    SlG (if ground (.tup [y, .int k n]) = true then h else h2) x l ∧ Fr h (if ground (.tup [y, .int k n]) = true then h else h2) := by
  refine ⟨?_, ?_⟩
  · rcases ho with rfl | ⟨b, o, m, rfl, _⟩
    · have hl : l = [] := List.eq_nil_of_length_eq_zero hs.1
      subst hl
      exact ⟨rfl, rfl⟩
    · rw [if_neg (by rcases hy with rfl | rfl <;> simp [ground, g1, g0])]
      exact hs
  · split
    · exact Fr.refl hw
    · exact hf

set_option maxRecDepth 100000

def isTrue : Option (V × Hp) → Bool
  | some (.bool b, _) => b
  | _ => false

theorem of_isTrue {x : Option (V × Hp)} (h : isTrue x = true) : ∃ h', x = some (.bool true, h') := by
  unfold isTrue at h
  split at h
  · rename_i b h'
    subst h
    exact ⟨h', rfl⟩
  · cases h

/-- The functions, known told by itself. -/
def fs1 (n : Nat) : Option D := bif Nat.beq n 11 then some (.orc orcKnown) else fs n

/-- A slice of bytes that came in. -/
theorem arg_row [Dr] {P : Program} {W : World} {ρ : Nat → Pl} {h : Hp} {a : Option Addr} {len cap : Nat} {z : List Int} (hg : GOK P ρ h.nx) (hr : Rel W.heap.size W h.nx ρ h W)
    (w0 : (a = none ∧ len = 0 ∧ cap = 0 ∧ z = []) ∨ ∃ x, a = some x ∧ len ≤ cap ∧ cap ≤ maxLen ∧ z.length = cap ∧ (∀ i, i < z.length → W.cell? (x.add i) = some (.int .u8 (z.getD i 0))) ∧ ∀ n ∈ z, (Lit.int .u8 n).wf = true) :
    ∃ ρ' h' v, GOK P ρ' h'.nx ∧ Rel W.heap.size W h'.nx ρ' h' W ∧ (∀ b, b < h.nx → ρ' b = ρ b) ∧ Fr h h' ∧ VR ρ' h'.nx v (.slice a len cap) ∧ SlI h' v (z.take len) ∧ Shape v := by
  rcases w0 with ⟨rfl, rfl, rfl, rfl⟩ | ⟨x, rfl, hl, hm, hz, hc, _⟩
  · exact ⟨ρ, h, .nsl, hg, hr, fun _ _ => rfl, Fr.refl hr.lt, rfl, ⟨rfl, rfl⟩, .inl rfl⟩
  · by_cases h0 : len = 0
    · subst h0
      exact ⟨ρ, h, .esl, hg, hr, fun _ _ => rfl, Fr.refl hr.lt, ⟨x, cap, rfl⟩, ⟨by simp, by simp [intsV]⟩, .inr (.inl rfl)⟩
    · have hz0 := hc 0 (by omega)
      have hx : x.spot = none := by
        obtain ⟨b, o, s⟩ := x
        simp only [Addr.add, if_true] at hz0
        exact Go.Proofs.cell_spot hz0
      obtain ⟨hc1, hc2⟩ := row_cells (ρ := ρ) (nx := h.nx) hx hc
      have hblk : x.block < W.heap.size := by
        simp only [Addr.add, if_true] at hz0
        exact Lib.lt_of_cell hz0
      have hrel := hr.arg ⟨x.block, x.off, 1, z.length⟩ (intsV .u8 z) hblk (by simp [intsV]) hc1 hc2
      refine ⟨withPl ρ h.nx ⟨x.block, x.off, 1, z.length⟩, h.new (.cells 1 (intsV .u8 z)), .sl h.nx 0 len 0, hg.arg _, hrel, fun b hb => ?_, (Fr.refl hr.lt).new _, ?_, ?_, .inr (.inr ⟨_, _, _, rfl⟩)⟩
      · have : b ≠ h.nx := by omega
        simp [withPl, this]
      · obtain ⟨b, o, s⟩ := x
        simp only at hx
        subst hx
        refine ⟨by simp, cap, by simp [withPl], hl, .inl rfl, by simp [withPl]; omega⟩
      · refine ⟨by simp; omega, ?_⟩
        rw [shown_mk (L := intsV .u8 z) Hp.get_new_same (by simp [intsV]; omega)]
        simp [intsV, List.map_take]

open Go Go.RowKit
set_option maxRecDepth 100000
variable {fs : Nat → Option D} {ro : Nat} {h : Hp}

def okR (p : Int × Int) : Bool := decide (0 ≤ p.1) && decide (p.1 ≤ p.2) && decide (p.2 ≤ 1099511627776)

theorem ev44 {p : Int × Int} (hf : fs 33 = some (.code F33)) {Q : V → Hp → Prop} (hq : ∀ h', Q (.bool (okR p)) h') : Ev fs ro 33 [.agg [.int .i64 p.1, .int .i64 p.2]] h Q := by
  refine Ev_fn hf rfl rfl rfl rfl ?_
  have hg1 : (h.new (.cells 0 [.int .i64 p.1, .int .i64 p.2])).get h.nx = some (.cells 0 [.int .i64 p.1, .int .i64 p.2]) := Hp.get_new_same
  refine WP_seq ?_
  refine WP_reg ?_
  refine WPO_op rfl ?_
  simp [V.cells]
  refine WPO_op rfl ?_
  simp
  refine WPO_nil ?_
  simp
  refine WP_seq ?_
  refine WP_reg ?_
  have hh := hq (h.new (.cells 0 [.int .i64 p.1, .int .i64 p.2]))
  by_cases c1 : 0 ≤ p.1 <;> by_cases c2 : p.1 ≤ p.2 <;> by_cases c3 : p.2 ≤ 1099511627776 <;>
    (simp [okR, c1, c2, c3] at hh
     repeat (first | (refine WPO_op rfl ?_; simp [loadV_ptr hg1, c1, c2, c3]; done) | (refine WPO_op rfl ?_; simp [loadV_ptr hg1, c1, c2, c3]) | (refine WPO_gop rfl ?_; simp [loadV_ptr hg1, c1, c2, c3]) | (refine WPO_nil ?_; simp))
     simp [WP_ret, F33]
     exact hh)

theorem ev43 {p : Int × Int} (hf43 : fs 32 = some (.code F32)) (hf : fs 33 = some (.code F33)) {Q : V → Hp → Prop} (hq : ∀ h', Q (.bool (!okR p)) h') : Ev fs ro 32 [.agg [.int .i64 p.1, .int .i64 p.2]] h Q := by
  refine Ev_fn hf43 rfl rfl rfl rfl ?_
  have hg1 : (h.new (.cells 0 [.int .i64 p.1, .int .i64 p.2])).get h.nx = some (.cells 0 [.int .i64 p.1, .int .i64 p.2]) := Hp.get_new_same
  refine WP_seq ?_
  refine WP_reg ?_
  refine WPO_op rfl ?_
  simp [V.cells]
  refine WPO_op rfl ?_
  simp
  refine WPO_nil ?_
  simp
  refine WP_seq ?_
  refine WP_reg ?_
  refine WPO_op rfl ?_
  simp [loadV_ptr hg1, loadN_all]
  refine WPO_call (g := 33) (a := []) (b := []) (args := [.agg [.int .i64 p.1, .int .i64 p.2]]) rfl rfl ?_
  simp
  refine ev44 hf fun h' => ?_
  simp
  repeat (first | (refine WPO_op rfl ?_; simp) | (refine WPO_nil ?_; simp))
  simp [WP_ret, F32]
  exact hq _

def nhf (f : Int × Int → Bool) (l : List (Int × Int)) (i : Nat) : Prop := (l.take i).any f = false

theorem ev52g {v : V} {l : List (Int × Int)} {g : Nat} {cp : List V} {f : Int × Int → Bool} (hf : fs 51 = some (.code F51)) (hv : SlG h v l) (hcl : ∀ (p : Int × Int) {Q : V → Hp → Prop}, (∀ h', Q (.bool (f p)) h') → Ev fs h.nx g (.agg [.int .i64 p.1, .int .i64 p.2] :: cp) h Q) (hw : ∀ b x, h.get b = some x → b < h.nx) (hn : l.length ≤ 1000000) {Q : V → Hp → Prop}
    (hq : ∀ n h', (decide (n ≥ (0 : Int)) = l.any f) → Q (.int .i64 n) h') : Ev fs ro 51 [v, .fn (.func g) [] cp] h Q := by
  have hlen := hv.lenV
  refine Ev_fn hf rfl rfl rfl rfl ?_
  repeat (first | refine WP_seq ?_ | refine WP_reg ?_ | (refine WPO_op rfl ?_; simp [hlen]) | (refine WPO_nil ?_; simp))
  refine WP_block ?_
  refine WP_loop (fun m e h1 => ∃ i, m = l.length - i ∧ i ≤ l.length ∧ nhf f l i ∧ h = h1 ∧ e = [(0, v), (1, .fn (.func g) [] cp), (7, .int .i64 l.length), (8, .int .i64 i)]) l.length ⟨0, by simp, by omega, by simp [nhf], rfl, rfl⟩ ?_
  rintro m e h1 ⟨i, rfl, hi, hany, rfl, rfl⟩
  refine WP_seq ?_
  refine WP_reg ?_
  repeat (first | (refine WPO_op rfl ?_; simp) | (refine WPO_nil ?_; simp))
  refine WP_seq ?_
  refine WP_cond rfl ⟨fun ht => ?_, fun ht => ?_⟩
  · have hi' : i < l.length := by simpa using ht
    have hwr : IntKind.wrap .i64 ((i : Int) + 1) = (i : Int) + 1 := wrap_i64 (by omega) (by omega)
    obtain ⟨b, o, c, L, rfl, hgb, q1, q2⟩ := SlG.at hv (List.getElem?_eq_getElem hi')
    simp only [WP_skip, nrmOr_nrm]
    refine WP_mid (fun e' h' => h = h' ∧ f l[i] = false ∧ e'.get 0 = some (V.sl b o l.length c) ∧ e'.get 1 = some (.fn (.func g) [] cp) ∧ e'.get 7 = some (.int .i64 l.length) ∧ e'.get 8 = some (.int .i64 i)) ?_ ?_
    rotate_left
    · rintro e' h' ⟨rfl, hp, e0, e1, e7, e8⟩
      repeat (first | refine WP_reg ?_ | (refine WPO_op rfl ?_; simp [e8]) | (refine WPO_nil ?_; simp [e0, e1, e7, e8]))
      refine ⟨l.length - (i + 1), by omega, i + 1, rfl, by omega, ?_, ?_⟩
      · unfold nhf at hany ⊢
        rw [List.take_succ_eq_append_getElem hi', List.any_append, hany]
        simp only [List.any_cons, List.any_nil, hp, Bool.or_false]
      · rw [hwr]
        omega
    refine WP_block ?_
    refine WP_seq ?_
    refine WP_reg ?_
    repeat (first | (refine WPO_op rfl ?_; simp) | (refine WPO_nil ?_; simp))
    refine WP_seq ?_
    refine WP_reg ?_
    repeat (first | (refine WPO_op rfl ?_; simp [hi', loadV_ptr hgb, loadN_two q1 q2]) | (refine WPO_nil ?_; simp))
    refine WPO_call (g := g) (a := []) (b := cp) (args := [.agg [.int .i64 l[i].1, .int .i64 l[i].2]]) rfl rfl ?_
    simp
    refine hcl _ fun h' => ?_
    simp
    refine WPO_nil ?_
    simp
    refine WP_cond rfl ⟨fun hd => ?_, fun hd => ?_⟩
    · refine WP_seq ?_
      refine WP_reg ?_
      repeat (first | (refine WPO_op rfl ?_; simp) | (refine WPO_nil ?_; simp))
      simp [WP_ret, F51]
      refine hq i h ?_
      have : l.any f = true := List.any_eq_true.2 ⟨l[i], List.getElem_mem hi', hd⟩
      simp [this]
    · simp only [WP_skip, blkQ_nrm, nrmOr_nrm]
      exact ⟨trivial, hd, by simp⟩
  · have hi' : i = l.length := by
      have : ¬ (i < l.length) := by simpa using ht
      omega
    subst hi'
    simp only [WP_exit, nrmOr_exit, blkQ_exit, if_pos, nrmOr_nrm, blkQ_nrm]
    repeat (first | refine WP_seq ?_ | refine WP_reg ?_ | (refine WPO_op rfl ?_; simp) | (refine WPO_nil ?_; simp))
    simp [WP_ret, F51]
    refine hq (-1) h ?_
    unfold nhf at hany
    rw [List.take_length] at hany
    rw [hany]
    rfl

theorem ev34g {v : V} {l : List (Int × Int)} {g : Nat} {cp : List V} {f : Int × Int → Bool} (hf34 : fs 31 = some (.code F31)) (hf : fs 51 = some (.code F51)) (hv : SlG h v l) (hcl : ∀ (p : Int × Int) {Q : V → Hp → Prop}, (∀ h', Q (.bool (f p)) h') → Ev fs h.nx g (.agg [.int .i64 p.1, .int .i64 p.2] :: cp) h Q) (hw : ∀ b x, h.get b = some x → b < h.nx) (hn : l.length ≤ 1000000) {Q : V → Hp → Prop}
    (hq : ∀ h', Q (.bool (l.any f)) h') : Ev fs ro 31 [v, .fn (.func g) [] cp] h Q := by
  refine Ev_fn hf34 rfl rfl rfl rfl ?_
  repeat (first | refine WP_seq ?_ | refine WP_reg ?_ | (refine WPO_op rfl ?_; simp; done) | (refine WPO_op rfl ?_; simp) | (refine WPO_nil ?_; simp))
  refine WPO_call (g := 51) (a := []) (b := []) (args := [v, .fn (.func g) [] cp]) rfl rfl ?_
  simp
  refine ev52g hf hv hcl hw hn fun n h' hn' => ?_
  simp
  repeat (first | (refine WPO_op rfl ?_; simp) | (refine WPO_nil ?_; simp))
  simp [WP_ret, F31]
  have := hq h
  rw [← hn'] at this
  simpa using this

open Go Go.RowKit
set_option maxRecDepth 100000
variable {fs : Nat → Option D} {ro : Nat} {h : Hp}

theorem ev58 {a : Int} (hf : fs 54 = some (.code F54)) {Q : V → Hp → Prop} (hq : ∀ h', Q (.bool false) h') : Ev fs ro 54 [.int .i64 a] h Q := by
  refine Ev_fn hf rfl rfl rfl rfl ?_
  repeat (first | refine WP_seq ?_ | refine WP_reg ?_ | (refine WPO_op rfl ?_; simp) | (refine WPO_nil ?_; simp))
  simp [WP_ret, F54]
  exact hq _

theorem ev49 {a b : Int} (hf : fs 38 = some (.code F38)) (hf58 : fs 54 = some (.code F54)) {Q : V → Hp → Prop} (hq : ∀ h', Q (.int .i64 (Lib.compareInt a b)) h') : Ev fs ro 38 [.int .i64 a, .int .i64 b] h Q := by
  refine Ev_fn hf rfl rfl rfl rfl ?_
  refine WP_seq ?_
  refine WP_reg ?_
  repeat (first | (refine WPO_op rfl ?_; simp) | (refine WPO_nil ?_; simp))
  refine WP_seq ?_
  refine WP_reg ?_
  refine WPO_op rfl ?_
  simp
  refine WPO_call (g := 54) (a := []) (b := []) (args := [.int .i64 a]) rfl rfl ?_
  simp
  refine ev58 hf58 fun h1 => ?_
  simp
  repeat (first | (refine WPO_op rfl ?_; simp) | (refine WPO_nil ?_; simp))
  refine WP_seq ?_
  refine WP_reg ?_
  refine WPO_op rfl ?_
  simp
  refine WPO_call (g := 54) (a := []) (b := []) (args := [.int .i64 b]) rfl rfl ?_
  simp
  refine ev58 hf58 fun h1 => ?_
  simp
  repeat (first | (refine WPO_op rfl ?_; simp) | (refine WPO_nil ?_; simp))
  repeat (first | refine WP_seq ?_ | refine WP_reg ?_ | (refine WPO_op rfl ?_; simp) | (refine WPO_nil ?_; simp))
  refine WP_cond rfl ⟨fun hd => (by cases hd), fun _ => ?_⟩
  simp only [WP_skip, nrmOr_nrm]
  repeat (first | refine WP_seq ?_ | refine WP_reg ?_ | (refine WPO_op rfl ?_; simp) | (refine WPO_nil ?_; simp))
  refine WP_cond rfl ⟨fun hd => (by cases hd), fun _ => ?_⟩
  simp only [WP_skip, nrmOr_nrm]
  repeat (first | refine WP_seq ?_ | refine WP_reg ?_ | (refine WPO_op rfl ?_; simp) | (refine WPO_nil ?_; simp))
  refine WP_cond rfl ⟨fun hd => ?_, fun hd => ?_⟩
  · have h1 : a < b := by simpa using hd
    repeat (first | refine WP_seq ?_ | refine WP_reg ?_ | (refine WPO_op rfl ?_; simp) | (refine WPO_nil ?_; simp))
    simp [WP_ret, F38]
    have := hq h
    simpa [Lib.compareInt, h1] using this
  · have h1 : ¬ a < b := by simpa using hd
    simp only [WP_skip, nrmOr_nrm]
    repeat (first | refine WP_seq ?_ | refine WP_reg ?_ | (refine WPO_op rfl ?_; simp) | (refine WPO_nil ?_; simp))
    refine WP_cond rfl ⟨fun hd => ?_, fun hd => ?_⟩
    · have h2 : b < a := by simpa using hd
      repeat (first | refine WP_seq ?_ | refine WP_reg ?_ | (refine WPO_op rfl ?_; simp) | (refine WPO_nil ?_; simp))
      simp [WP_ret, F38]
      have := hq h
      simpa [Lib.compareInt, h1, h2] using this
    · have h2 : ¬ b < a := by simpa using hd
      simp only [WP_skip, nrmOr_nrm]
      repeat (first | refine WP_seq ?_ | refine WP_reg ?_ | (refine WPO_op rfl ?_; simp) | (refine WPO_nil ?_; simp))
      simp [WP_ret, F38]
      have := hq h
      simpa [Lib.compareInt, h1, h2] using this

theorem ev48 {a c : Int} {b k : Nat} (hf : fs 37 = some (.code F37)) (hg : h.get b = some (.cells 1 [.int .i64 a, .int .i64 c])) {Q : V → Hp → Prop} (hq : ∀ h', Q (.int .i64 (if a = 0 then c else a)) h') : Ev fs ro 37 [.sl b 0 2 k] h Q := by
  refine Ev_fn hf rfl rfl rfl rfl ?_
  repeat (first | refine WP_seq ?_ | refine WP_reg ?_ | (refine WPO_op rfl ?_; simp) | (refine WPO_nil ?_; simp))
  refine WP_block ?_
  refine WP_loop (fun m e h1 => ∃ i, m = 2 - i ∧ i ≤ 2 ∧ (1 ≤ i → a = 0) ∧ (2 ≤ i → c = 0) ∧ h = h1 ∧ e = [(3, .int .i64 0), (6, .sl b 0 2 k), (7, .int .i64 2), (8, .int .i64 (i : Nat))]) 2 ⟨0, by omega, by omega, fun h => by omega, fun h => by omega, rfl, rfl⟩ ?_
  rintro m e h1 ⟨i, rfl, hi, ha, hc, rfl, rfl⟩
  repeat (first | refine WP_seq ?_ | refine WP_reg ?_ | (refine WPO_op rfl ?_; simp) | (refine WPO_nil ?_; simp))
  refine WP_cond rfl ⟨fun hd => ?_, fun hd => ?_⟩
  · have h2 : i < 2 := by
      have : (i : Int) < 2 := by simpa using hd
      omega
    simp only [WP_skip, nrmOr_nrm]
    obtain ⟨x, hx, hx0, hx1⟩ : ∃ x, [V.int .i64 a, V.int .i64 c][i]? = some (.int .i64 x) ∧ (x ≠ 0 → (if a = 0 then c else a) = x) ∧ (x = 0 → (1 ≤ i + 1 → a = 0) ∧ (2 ≤ i + 1 → c = 0)) := by
      rcases Nat.lt_or_ge i 1 with h3 | h3
      · have : i = 0 := by omega
        subst this
        exact ⟨a, rfl, fun h => by rw [if_neg h], fun h => ⟨fun _ => h, fun h => by omega⟩⟩
      · have : i = 1 := by omega
        subst this
        exact ⟨c, rfl, fun _ => by rw [if_pos (ha (Nat.le_refl _))], fun h => ⟨fun _ => ha (Nat.le_refl _), fun _ => h⟩⟩
    have hwr : IntKind.wrap .i64 ((i : Int) + 1) = ((i + 1 : Nat) : Int) := by rw [wrap_i64 (by omega) (by omega)]; omega
    refine WP_mid (fun e' h' => h = h' ∧ x = 0 ∧ e'.get 3 = some (.int .i64 0) ∧ e'.get 6 = some (.sl b 0 2 k) ∧ e'.get 7 = some (.int .i64 2) ∧ e'.get 8 = some (.int .i64 (i : Nat))) ?_ ?_
    · refine WP_block ?_
      refine WP_seq ?_
      refine WP_reg ?_
      have hi2 : (i : Int) < 2 := by omega
      repeat (first | (refine WPO_op rfl ?_; simp [loadV_ptr hg, hx, hi2]; done) | (refine WPO_op rfl ?_; simp [loadV_ptr hg, hx, hi2]) | (refine WPO_nil ?_; simp))
      refine WP_seq ?_
      refine WP_reg ?_
      repeat (first | (refine WPO_op rfl ?_; simp) | (refine WPO_nil ?_; simp))
      refine WP_cond rfl ⟨fun hd => ?_, fun hd => ?_⟩
      · have hne : x ≠ 0 := by simpa using hd
        repeat (first | refine WP_seq ?_ | refine WP_reg ?_ | (refine WPO_op rfl ?_; simp) | (refine WPO_nil ?_; simp))
        simp [WP_ret, F37]
        have := hq h
        rwa [hx0 hne] at this
      · have he : x = 0 := by simpa using hd
        simp only [WP_skip, nrmOr_nrm, blkQ_nrm]
        exact ⟨trivial, he, rfl, rfl, rfl, rfl⟩
    rintro e' h' ⟨rfl, he, e3, e6, e7, e8⟩
    repeat (first | refine WP_reg ?_ | (refine WPO_op rfl ?_; simp [e8]) | (refine WPO_nil ?_; simp [e3, e6, e7, e8]))
    refine ⟨2 - (i + 1), by omega, i + 1, rfl, by omega, (hx1 he).1, (hx1 he).2, ?_⟩
    rw [hwr]
  · have h2 : i = 2 := by
      have : ¬ (i : Int) < 2 := by simpa using hd
      omega
    subst h2
    simp only [WP_exit, nrmOr_exit, blkQ_exit, if_pos, nrmOr_nrm, blkQ_nrm]
    repeat (first | refine WP_seq ?_ | refine WP_reg ?_ | (refine WPO_op rfl ?_; simp) | (refine WPO_nil ?_; simp))
    simp [WP_ret, F37]
    have := hq h
    rwa [if_pos (ha (by omega)), hc (Nat.le_refl _)] at this

theorem ev47 {x y : Int × Int} (hf : fs 36 = some (.code F36)) (hf48 : fs 37 = some (.code F37)) (hf49 : fs 38 = some (.code F38)) (hf58 : fs 54 = some (.code F54)) {Q : V → Hp → Prop} (hq : ∀ h', Q (.int .i64 (cfR x y)) h') :
    Ev fs ro 36 [.agg [.int .i64 x.1, .int .i64 x.2], .agg [.int .i64 y.1, .int .i64 y.2]] h Q := by
  refine Ev_fn hf rfl rfl rfl rfl ?_
  have hg1 : ((h.new (.cells 0 [.int .i64 x.1, .int .i64 x.2])).new (.cells 0 [.int .i64 y.1, .int .i64 y.2])).get h.nx = some (.cells 0 [.int .i64 x.1, .int .i64 x.2]) := by
    rw [Hp.get_new_ne (by simp)]; exact Hp.get_new_same
  have hg2 : ((h.new (.cells 0 [.int .i64 x.1, .int .i64 x.2])).new (.cells 0 [.int .i64 y.1, .int .i64 y.2])).get (h.nx + 1) = some (.cells 0 [.int .i64 y.1, .int .i64 y.2]) := Hp.get_new_same (h := h.new (.cells 0 [.int .i64 x.1, .int .i64 x.2]))
  refine WP_seq ?_
  refine WP_reg ?_
  refine WPO_op rfl ?_
  simp [V.cells]
  refine WPO_op rfl ?_
  simp [V.cells]
  refine WPO_op rfl ?_
  simp
  refine WPO_nil ?_
  simp
  generalize ((h.new (.cells 0 [.int .i64 x.1, .int .i64 x.2])).new (.cells 0 [.int .i64 y.1, .int .i64 y.2])) = h2 at *
  refine WP_seq ?_
  refine WP_reg ?_
  repeat (first | (refine WPO_op rfl ?_; simp [loadV_ptr hg1, loadV_ptr hg2]; done) | (refine WPO_op rfl ?_; simp [loadV_ptr hg1, loadV_ptr hg2]))
  refine WPO_call (g := 38) (a := []) (b := []) (args := [.int .i64 x.1, .int .i64 y.1]) rfl rfl ?_
  simp
  refine ev49 hf49 hf58 fun h' => ?_
  simp
  repeat (first | (refine WPO_op rfl ?_; simp [loadV_ptr hg1, loadV_ptr hg2]; done) | (refine WPO_op rfl ?_; simp [loadV_ptr hg1, loadV_ptr hg2]))
  refine WPO_call (g := 38) (a := []) (b := []) (args := [.int .i64 x.2, .int .i64 y.2]) rfl rfl ?_
  simp
  refine ev49 hf49 hf58 fun h' => ?_
  simp
  refine WPO_op rfl ?_
  simp [evParts, zeros, fill, V.cells, setN]
  refine WPO_call (g := 37) (a := []) (b := []) (args := [.sl h2.nx 0 2 3]) rfl rfl ?_
  simp
  refine ev48 hf48 (a := Lib.compareInt x.1 y.1) (c := Lib.compareInt x.2 y.2) Hp.get_new_same fun h' => ?_
  simp
  repeat (first | (refine WPO_op rfl ?_; simp) | (refine WPO_nil ?_; simp))
  simp [WP_ret, F36]
  exact hq _
open Go Go.RowKit
set_option maxRecDepth 100000
variable {fs : Nat → Option D} {ro : Nat} {h : Hp}

theorem ev45o {v : V} {l : List (Int × Int)} (hf : fs 34 = some (.code F34)) (hv : SlG h v l) (hw : ∀ b x, h.get b = some x → b < h.nx) (hn : l.length ≤ 1000000) {Q : V → Hp → Prop}
    (hq : ∀ x h', SlG h' x l → (x = .nsl ∧ l = [] ∨ ground x = false) → Fr h h' → (l = [] ∨ Own h.nx x) → Q x h') : Ev fs ro 34 [v] h Q := by
  refine Ev_fn hf rfl rfl rfl rfl ?_
  have hnew : Fr h (h.new (.cells 2 [])) := (Fr.refl hw).new _
  have hsn : shown (h.new (.cells 2 [])) 2 h.nx 0 0 = some [] := (Sl.ofNew (h := h) (sz := 2) (n := 0) (c := 1) (l := []) rfl).2
  cases v <;> simp only [SlG, Sl] at hv
  case nsl =>
    obtain ⟨hv1, hv2⟩ := hv
    have hl : l = [] := List.eq_nil_of_length_eq_zero hv1
    subst hl
    repeat (first | refine WP_seq ?_ | refine WP_reg ?_ | (refine WPO_op rfl ?_; simp) | (refine WPO_nil ?_; simp))
    refine WP_cond rfl ⟨fun hd => ?_, fun hd => (by cases hd)⟩
    repeat (first | refine WP_seq ?_ | refine WP_reg ?_ | (refine WPO_op rfl ?_; simp) | (refine WPO_nil ?_; simp))
    simp [WP_ret, F34]
    exact hq .nsl h ⟨rfl, rfl⟩ (.inl ⟨rfl, rfl⟩) (Fr.refl hw) (.inl rfl)
  case esl =>
    obtain ⟨hv1, hv2⟩ := hv
    have hl : l = [] := List.eq_nil_of_length_eq_zero hv1
    subst hl
    repeat (first | refine WP_seq ?_ | refine WP_reg ?_ | (refine WPO_op rfl ?_; simp) | (refine WPO_nil ?_; simp))
    refine WP_cond rfl ⟨fun hd => (by cases hd), fun hd => ?_⟩
    simp only [WP_skip, nrmOr_nrm]
    refine WP_seq ?_
    refine WP_reg ?_
    refine WPO_op rfl ?_
    simp [evParts, zeros, fill]
    refine WPO_op rfl ?_
    simp
    refine WPO_op rfl ?_
    simp [op1, app]
    refine WPO_op rfl ?_
    simp
    refine WPO_nil ?_
    simp [WP_ret, F34]
    exact hq _ _ ⟨rfl, hsn⟩ (.inr rfl) hnew (.inl rfl)
  case sl b o n c =>
    obtain ⟨rfl, hs⟩ := hv
    repeat (first | refine WP_seq ?_ | refine WP_reg ?_ | (refine WPO_op rfl ?_; simp) | (refine WPO_nil ?_; simp))
    refine WP_cond rfl ⟨fun hd => (by cases hd), fun hd => ?_⟩
    simp only [WP_skip, nrmOr_nrm]
    have hs2 := shown_fr hnew hs
    refine WP_seq ?_
    refine WP_reg ?_
    refine WPO_op rfl ?_
    simp [evParts, zeros, fill]
    refine WPO_op rfl ?_
    simp
    refine WPO_op rfl ?_
    by_cases hl : l.length = 0
    · have hl' : l = [] := List.eq_nil_of_length_eq_zero hl
      subst hl'
      rw [op1_app (v := .sl h.nx 0 0 1) (b := b) (o := o) (m := 0) (c := c) (v' := .sl h.nx 0 0 1) (h' := h.new (.cells 2 [])) rfl rfl hs2 rfl (by simp [app])]
      simp
      refine WPO_op rfl ?_
      simp
      refine WPO_nil ?_
      simp [WP_ret, F34]
      exact hq _ _ ⟨rfl, hsn⟩ (.inr rfl) hnew (.inl rfl)
    · have happ : app ro (h.new (.cells 2 [])) 2 16 (.sl h.nx 0 0 1) l.length (flat l) = some (.sl (h.new (.cells 2 [])).nx 0 l.length 0, (h.new (.cells 2 [])).new (.cells 2 (flat l))) := by
        simp only [app]
        rw [if_neg hl, if_pos (by unfold roomMax; omega), if_neg (by omega), if_neg (by omega), hsn]
        simp
      rw [op1_app (v := .sl h.nx 0 0 1) (b := b) (o := o) (m := l.length) (c := c) rfl rfl hs2 (flat_one l) happ]
      simp
      refine WPO_op rfl ?_
      simp
      refine WPO_nil ?_
      simp [WP_ret, F34]
      refine hq _ _ ?_ (.inr rfl) (hnew.new _) (.inr (.inr ⟨_, _, _, rfl, by simp⟩))
      exact Sl.ofNew (h := h.new (.cells 2 [])) (flat_len l)


theorem mrg_le1 (out : List Rg) (r : Rg) : (mrg out r).length ≤ out.length + 1 := by
  unfold mrg
  split
  · omega
  · split
    · split
      · simp
      · simp
    · simp
theorem mrgs_le_go : ∀ (l out : List Rg), (l.foldl mrg out).length ≤ out.length + l.length
  | [], out => by simp
  | r :: l, out => by
    have h1 := mrgs_le_go l (mrg out r)
    have h2 := mrg_le1 out r
    simp only [List.foldl_cons, List.length_cons]
    omega
theorem mrgs_le (l : List Rg) : (mrgs l).length ≤ l.length := by
  have := mrgs_le_go l []
  simpa [mrgs] using this

theorem sort_sl {x : V} {l : List Rg} {h0 h2 : Hp} (hf : Fr h0 h2) (hw0 : ∀ b x, h0.get b = some x → b < h0.nx) (hro : ro ≤ h0.nx) (hn : l.length ≤ 1000000) (hs : SlG h2 x l) (hx : l = [] ∨ Own h0.nx x) :
    ∃ hS, orcSort 36 ro [x, .fn (.func 36) [] []] h2 = some (.tup [], hS) ∧ SlG hS x (sortR l) ∧ Fr h0 hS := by
  by_cases hl : l = []
  · subst hl
    have e : sortR ([] : List Rg) = [] := List.eq_nil_of_length_eq_zero (sortR_len [])
    rw [e]
    refine ⟨h2, ?_, hs, hf⟩
    cases x <;> simp only [SlG, Sl] at hs
    · rename_i b o n c
      obtain ⟨hn0, _⟩ := hs
      have : n = 0 := by simpa using hn0
      subst this
      rfl
    · rfl
    · rfl
  · rcases hx with hx | hx
    · exact absurd hx hl
    rcases hx with rfl | ⟨b, o, n, rfl, hb⟩
    · exact absurd (List.eq_nil_of_length_eq_zero hs.1) hl
    obtain ⟨rfl, hsh⟩ := hs
    obtain ⟨L, hg, hle, hfl⟩ := shown_spec hsh
    have hlen : l.length ≠ 0 := fun q => hl (List.eq_nil_of_length_eq_zero q)
    have hload : loadN L o (l.length * 2) = some (flat l) := by
      unfold loadN
      have : Nat.ble (o + l.length * 2) L.length = true := Nat.ble_eq_true_of_le hle
      rw [this]
      simp only [cond_true, Option.some.injEq]
      exact hfl.symm
    have hset : setN L o (flat (sortR l)) = some (L.take o ++ (flat (sortR l) ++ L.drop (o + (flat (sortR l)).length))) := by
      unfold setN
      have : Nat.ble (o + (flat (sortR l)).length) L.length = true := Nat.ble_eq_true_of_le (by rw [flat_len, sortR_len]; exact hle)
      rw [this]
      rfl
    refine ⟨h2.set b (.cells 2 (L.take o ++ (flat (sortR l) ++ L.drop (o + (flat (sortR l)).length)))), ?_, ?_, hf.set hw0 hb hg _⟩
    · simp only [orcSort]
      rw [if_neg hlen, if_pos ⟨trivial, by omega, hn⟩, hg]
      simp [hload, rgs_flat, hset]
    · refine ⟨by rw [sortR_len], ?_⟩
      have hfl2 := flat_len (sortR l)
      rw [sortR_len] at hfl2
      rw [sortR_len, shown_mk (Hp.get_set_same hg) (by simp only [List.length_append, List.length_take, List.length_drop]; omega)]
      congr 1
      rw [List.drop_append_of_le_length (by simp; omega), List.drop_of_length_le (by simp; omega), List.nil_append, List.take_append_of_le_length (by omega), List.take_of_length_le (by omega)]

def ofL (l : List Rg) : List Rg := if l.all okR = true then mrgs (sortR l) else []
def ofE (l : List Rg) : Int := if l.all okR = true then 0 else 2

theorem any_not : ∀ l : List Rg, l.any (fun p => !okR p) = !(l.all okR)
  | [] => rfl
  | p :: l => by simp [any_not l]

theorem ev26 {v : V} {l : List Rg} (hf : fs 15 = some (.code F15)) (hf34 : fs 31 = some (.code F31)) (hf52 : fs 51 = some (.code F51)) (hf43 : fs 32 = some (.code F32)) (hf44 : fs 33 = some (.code F33)) (hf45 : fs 34 = some (.code F34)) (hf46 : fs 35 = some (.orc (orcSort 36))) (hf25 : fs 39 = some (.code F39))
    (hv : SlG h v l) (hw : ∀ b x, h.get b = some x → b < h.nx) (hro : ro ≤ h.nx) (hn : l.length ≤ 1000) {Q : V → Hp → Prop}
    (hq : ∀ x h', SlG h' x (ofL l) → Own h.nx x → Fr h h' → Q (.tup [.agg [x], .int .i64 (ofE l)]) h') : Ev fs ro 15 [v] h Q := by
  refine Ev_fn hf rfl rfl rfl rfl ?_
  have hf1 : Fr h (h.new (.cells 0 [.nsl])) := (Fr.refl hw).new _
  have hg1 : (h.new (.cells 0 [.nsl])).get h.nx = some (.cells 0 [.nsl]) := Hp.get_new_same
  refine WP_seq ?_
  refine WP_reg ?_
  refine WPO_op rfl ?_
  simp
  refine WPO_op rfl ?_
  simp
  refine WPO_nil ?_
  simp
  have hnx1 : h.nx < (h.new (.cells 0 [.nsl])).nx := by simp
  generalize (h.new (.cells 0 [.nsl])) = h1 at *
  have hv1 : SlG h1 v l := Sl.fr hf1 hv
  refine WP_seq ?_
  refine WP_seq ?_
  refine WP_reg ?_
  refine WPO_op rfl ?_
  simp
  refine WPO_call (g := 31) (a := []) (b := []) (args := [v, .fn (.func 32) [] []]) rfl rfl ?_
  simp
  refine ev34g hf34 hf52 (f := fun p => !okR p) hv1 (fun p {Q} hq => ev43 hf43 hf44 hq) hf1.wf (by omega) fun h' => ?_
  rw [any_not]
  simp
  refine WPO_nil ?_
  simp
  refine WP_cond rfl ⟨fun hd => ?_, fun hd => ?_⟩
  · have hb : l.all okR = false := by simpa using hd
    refine WP_seq ?_
    refine WP_reg ?_
    refine WPO_op rfl ?_
    simp [evParts, fill]
    refine WPO_op rfl ?_
    refine OB_store (b := h.nx) (o := 0) (v := V.agg [.nsl]) (l' := [.nsl]) rfl rfl (by omega) rfl rfl hg1 rfl ?_
    simp
    refine WPO_op rfl ?_
    simp
    refine WPO_nil ?_
    simp [WP_ret, F15]
    have hg2 : (h1.set h.nx (.cells 0 [.nsl])).get h.nx = some (.cells 0 [.nsl]) := Hp.get_set_same hg1
    simp [loadV_ptr hg2, loadN]
    have := hq .nsl (h1.set h.nx (.cells 0 [.nsl])) (by simp only [ofL, hb]; exact ⟨rfl, rfl⟩) (.inl rfl) (hf1.set hw (Nat.le_refl _) hg1 _)
    simpa [ofE, hb, pack] using this
  · have hb : l.all okR = true := by simpa using hd
    simp only [WP_skip, nrmOr_nrm]
    refine WP_seq ?_
    refine WP_reg ?_
    refine WPO_op rfl ?_
    simp
    refine WPO_call (g := 34) (a := []) (b := []) (args := [v]) rfl rfl ?_
    simp
    refine ev45o hf45 hv1 hf1.wf (by omega) fun x h2 hsx hgx hfx hox => ?_
    obtain ⟨hsR, hfR⟩ : SlG (if ground x = true then h1 else h2) x l ∧ Fr h1 (if ground x = true then h1 else h2) := by
      rcases hgx with ⟨rfl, rfl⟩ | hgx
      · exact ⟨⟨rfl, rfl⟩, Fr.refl hf1.wf⟩
      · rw [hgx]
        exact ⟨hsx, hfx⟩
    generalize (if ground x = true then h1 else h2) = hR at *
    refine WPO_op rfl ?_
    simp
    refine WPO_nil ?_
    simp
    obtain ⟨hS, hrun, hsS, hfS⟩ := sort_sl (ro := ro) hfR hf1.wf (by omega) (by omega) hsR hox
    refine WP_seq ?_
    refine WP_reg ?_
    refine WPO_op rfl ?_
    simp
    refine WPO_call (g := 35) (a := []) (b := []) (args := [x, .fn (.func 36) [] []]) rfl rfl ?_
    simp
    refine Ev_orc hf46 (r := .tup []) (h' := hS) hrun ?_
    refine WPO_nil ?_
    simp
    refine WP_seq ?_
    refine WP_reg ?_
    refine WPO_op rfl ?_
    simp
    refine WPO_call (g := 39) (a := []) (b := []) (args := [x]) rfl rfl ?_
    simp
    have hle := mrgs_le (sortR l)
    rw [sortR_len] at hle
    refine ev25 hf25 hsS hfS.wf (Nat.le_refl _) (by rw [sortR_len]; omega) fun y h3 hsy hoy hfy => ?_
    have hmv : madeV (mrgs (sortR l)) y = .tup [.agg [y], .int .i64 0] := by
      unfold madeV
      rw [if_neg (by omega)]
    rw [hmv]
    obtain ⟨hsT, hfT⟩ := aft (k := .i64) (n := 0) hfS.wf hsy hoy hfy (.inl rfl)
    generalize (if ground (V.tup [V.agg [y], V.int .i64 0]) = true then hS else h3) = hT at *
    have hg2 := hfT.sub _ _ (hfS.sub _ _ hg1)
    obtain ⟨hyc1, hyc2⟩ := hoy.cells
    refine WPO_op rfl ?_
    simp [op1]
    refine WPO_op rfl ?_
    simp [op1]
    refine WPO_op rfl ?_
    refine OB_store (b := h.nx) (o := 0) (v := V.agg [y]) (l' := [y]) rfl rfl (by omega) rfl (by simp [V.cells, hyc2]) hg2 rfl ?_
    simp
    refine WPO_op rfl ?_
    simp
    refine WPO_nil ?_
    simp [WP_ret, F15]
    have hg3 : (hT.set h.nx (.cells 0 [y])).get h.nx = some (.cells 0 [y]) := Hp.get_set_same hg2
    have hfinal : Fr h (hT.set h.nx (.cells 0 [y])) := ((hf1.trans hfS).trans hfT).set hw (Nat.le_refl _) hg2 _
    have hown : Own h.nx y := hoy.mono (by have := hfS.nx; omega)
    have hsy2 : SlG (hT.set h.nx (.cells 0 [y])) y (mrgs (sortR l)) := Sl.set_ne hsT hoy (by have := hfS.nx; omega) _
    simp [loadV_ptr hg3, loadN]
    have := hq y _ (by simp only [ofL, hb, if_true]; exact hsy2) hown hfinal
    simpa [ofE, hb, pack] using this
end Go.Am.SZ
