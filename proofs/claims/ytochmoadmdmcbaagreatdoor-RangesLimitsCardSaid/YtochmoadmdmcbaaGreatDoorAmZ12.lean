/- The laws RangesParses, RangesTexts and RangesLimits in every world that their rows let in: what the worlds hold, and the walks. -/
import Derived.Test.YtochmoadmdmcbaaGreatDoorAmZO
import Derived.Lib.LaidTab
import Derived.Shelf.Strings.Shaped
import Derived.SizedLaws
import Derived.HandedShaped
namespace Go.Am.SZ
set_option linter.unusedSimpArgs false
set_option linter.unusedVariables false
set_option linter.unusedSectionVars false
open Go Go.RowKit Go.Proofs
set_option maxRecDepth 100000

theorem tail_laid {P : Program} {W : World} {n : String} {d : DataW Unit} {r : List (String × DataW Unit)} (h : laidMet P ((n, d) :: r) W) : laidMet P r W ∧ ∃ g cs, P.globalNamed n = some g ∧ W.var? P n = some cs := by
  obtain ⟨ps, ⟨g, t, cs, fuel, p, q, hg, ht, hvar, hd, hr, rfl⟩, hn, hc⟩ := h
  exact ⟨⟨q, hr, (List.nodup_append.1 hn).2.1, fun b off hm => hc b off (List.mem_append_right _ hm)⟩, g, cs, hg, hvar⟩

theorem var_lt {P : Program} {W : World} {n : String} {g : Nat} {cs : Array Value} (hg : P.globalNamed n = some g) (h : W.var? P n = some cs) : g < W.heap.size := by
  unfold World.var? at h
  rw [hg] at h
  simp only [Option.bind_some] at h
  rcases Nat.lt_or_ge g W.heap.size with h1 | h1
  · exact h1
  · rw [Array.getElem?_eq_none h1] at h; cases h

theorem base_of {W : World} {d0 d1 : DataW Unit} {r : List (String × DataW Unit)} (hs : W.ShapedOpen Tryz.prog)
    (h : laidMet Tryz.prog (("math/bits.deBruijn32tab", d0) :: ("math/bits.deBruijn64tab", d1) :: ("internal/strconv.uint64pow10", Lib.tabData .u64 Lib.pow10Tab) :: r) W) : Base W := by
  obtain ⟨h1, _⟩ := tail_laid h
  obtain ⟨h2, g, cs, hg, hv⟩ := tail_laid h1
  obtain rfl : g = 7 := Option.some.inj ((show Tryz.prog.globalNamed "math/bits.deBruijn64tab" = some 7 by kernel_rfl).symm.trans hg) |>.symm
  refine ⟨?_, Tryz.laysM145.s1_3 W hs, Lib.tabIs_of_head (g := 1) (t := 155) (e := 114) (n := 20) (by kernel_rfl) (by kernel_rfl) Tryz.underlying155 Tryz.underlying114 (by kernel_rfl) (by kernel_rfl) h2⟩
  have := var_lt hg hv
  have hG : Tryz.prog.globals.size = 8 := by kernel_rfl
  omega

theorem walk3 {W : World} (hb : Base W) (s : ByteArray) : Calls Tryz.prog 3 #[.string s] W fun e w' => e = .returned (.bool true) ∧ Below W.heap.size W w' := by
  letI : Dr := drAt Tryz.prog.globals.size W
  have hev : Ev fsZ Tryz.prog.globals.size 3 [.str s.data.toList] ⟨Tryz.prog.globals.size, []⟩ fun r _ => r = .bool true :=
    z3 (fs := fsZ) (h := ⟨Tryz.prog.globals.size, []⟩) rfl rfl rfl rfl rfl rfl rfl rfl rfl rfl rfl rfl rfl rfl rfl rfl rfl rfl rfl rfl rfl (fun b x h => by simp [Hp.get, look] at h) (Nat.le_refl _) fun _ => rfl
  unfold Ev at hev
  obtain ⟨r, h', N, hrun, rfl⟩ := hev
  exact calls_true (run_sound mixed (fsZ_ok hb) N) (h := ⟨Tryz.prog.globals.size, []⟩) (ρ := rho0) (hrun N (Nat.le_refl _)) GOK.start (Rel.start (base_ok hb)) (us := [.string s]) (by simp only [VRs, VR]; exact ⟨_, _, rfl, rfl, rfl⟩)

theorem walk4 {W : World} (hb : Base W) (a0 : Option Addr) (len0 cap0 : Nat) (z0 : List (Int × Int)) (w0 : IsPairs W a0 len0 cap0 z0) :
    Calls Tryz.prog 4 #[.slice a0 len0 cap0] W fun e w' => e = .returned (.bool true) ∧ Below W.heap.size W w' := by
  letI : Dr := drAt Tryz.prog.globals.size W
  obtain ⟨ρ1, h1, v0, hg1, hr1, hρ1, hf1, hv0, hs0, hsh0⟩ := arg_pairs (P := Tryz.prog) (h := ⟨Tryz.prog.globals.size, []⟩) GOK.start (Rel.start (base_ok hb)) w0
  have hev : Ev fsZ h1.nx 4 [v0] h1 fun r _ => r = .bool true :=
    z4 rfl rfl rfl rfl rfl rfl rfl rfl rfl rfl rfl rfl rfl rfl rfl rfl rfl rfl rfl rfl rfl rfl rfl rfl rfl rfl rfl rfl rfl rfl rfl rfl rfl hs0 hsh0 hr1.lt (Nat.le_refl _) fun _ => rfl
  unfold Ev at hev
  obtain ⟨r, h', N, hrun, rfl⟩ := hev
  exact calls_true (run_sound mixed (fsZ_ok hb) N) (hrun N (Nat.le_refl _)) hg1 hr1 (us := [.slice a0 len0 cap0]) ⟨_, _, rfl, hv0, rfl⟩
end Go.Am.SZ
namespace Go
variable {H : Type} {enc : TypeId × Value → H}

/-- What the call may lean on: that the variables are of their shapes, and a condition of the row's. -/
theorem returnsInHanded_of_change_and_shaped {a : Assume} {C : Checked} {os : Os} {f : FuncId} {fn : Func} {s : ChangeSpec} {conds : List PathCond} {apart fresh handsOn again : Bool} {X : World → Array Value → Prop}
    (hX : ∀ (w w' : World) (args : Array Value), w.heap = w'.heap → X w args → X w' args)
    (own : ownKnob C.prog.godebug = none) (started : os.Started) (noInit : C.prog.inits.idxOf? f = none) (hfn : C.prog.funcs[f]? = some fn)
    (witness : ∃ (w : World) (tape : Tape) (i : Input), w.os = os ∧ (w.forCall tape i).Shaped C.prog ∧ i.vars = [] ∧ Input.okWide C.prog (w.forCall tape i) .any w.heap.size f i ∧
      ((s.pre enc C.prog fn conds apart (w.forCall tape i).memory i.args ∧ X (w.forCall tape i).memory i.args) ∧ sizedMet enc C.prog fn (OpenSpec.ofChange s) apart (w.forCall tape i).memory i.args) ∧ a.holds C.prog (lone (Frame.enter C.prog f i.args .normal) [] (w.forCall tape i)))
    (contract : ∀ (W : World) (base : Nat) (args : Array Value) (ds gs : List (DataW H)) (before : List MemPlace),
      (∀ (j : Nat) t v, fn.params[j]? = some t → args[j]? = some v → Value.okWide C.prog W .any base t v) →
      DataW.Whole enc C.prog fn.params.toList s.vars apart W args.toList ds gs before →
      X W args → W.ShapedOpen C.prog →
      Calls C.prog f args W fun e W' => ∃ v, e = .returned v ∧ s.post enc C.prog fn apart fresh handsOn again W args v W') :
    ReturnsInHanded a C os f .any (fun w args => (s.pre enc C.prog fn conds apart w args ∧ X w args) ∧ sizedMet enc C.prog fn (OpenSpec.ofChange s) apart w args) (s.post enc C.prog fn apart fresh handsOn again) := by
  refine returnsInHanded_of_calls own started noInit witness ?_
  intro w tape i _ hsh _ hok hpre hholds
  obtain ⟨_, _, _, fn', hfn', _, _, _, _, hval⟩ := hok
  have e : fn' = fn := Option.some.inj (hfn'.symm.trans hfn)
  subst e
  obtain ⟨⟨⟨ds, gs, before, hw, hc⟩, hx⟩, hz⟩ := hpre
  have hw' := DataW.Whole.of_heap (w' := w.forCall tape i) (by rfl) hw
  refine (contract (w.forCall tape i) w.heap.size i.args ds gs before hval hw' (hX _ _ _ (by rfl) hx) hsh).mono fun e W' ⟨v, he, hp⟩ => ?_
  subst he
  exact ChangeSpec.post_blind hp
end Go
