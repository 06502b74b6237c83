/-
  The statement 'ReachLimitsCardSaid' is proved: for every input the law returns true and each argument reads as it did. Conditions: the row's own (the tables of the libraries that the card ties to the program's text); none besides.
-/
import Derived.Test.YtejlcnbhaagdjaaGreatDoorZ05
import Derived.Test.YtejlcnbhaagdjaaGreatDoorCards
import Derived.Test.YtejlcnbhaagdjaaGreatDoorTie
import Derived.WalkKit
import Derived.ProofKit
import Derived.OpenShut
import Derived.Deep.DeepHandedRow
set_option linter.unusedSimpArgs false
set_option linter.unusedVariables false
set_option linter.unusedSectionVars false
namespace Go.Proofs.YtejlcnbhaagdjaaGreatDoor.reachLimits
open Go Go.Sep Go.ChangeShapes Go.WideShapes Go.ChangeAt Go.RowKit
set_option maxRecDepth 100000
theorem O3 : Opens Tryz.prog 3 Int := opens_int (by kernel_rfl) Tryz.underlying3
theorem O5 : Opens Tryz.prog 5 UInt8 := opens_u8 (by kernel_rfl) Tryz.underlying5
theorem O23 : Opens Tryz.prog 23 (List UInt8) := opens_list (by kernel_rfl) Tryz.underlying23 (by decide) O5
theorem O53 : Opens Tryz.prog 53 (Int × (List UInt8)) := opens_pair (by kernel_rfl) Tryz.underlying53 rfl rfl O3 O23
theorem O22 : Opens Tryz.prog 22 (List (Int × (List UInt8))) := opens_list (by kernel_rfl) Tryz.underlying22 (by decide) O53
theorem own : ownKnob Tryz.prog.godebug = none := by kernel_rfl
theorem d_deBruijn32s {H : Type} : (Rows.laid_math_bits_deBruijn32tab : DataW H) = Lib.tabData .u8 (deBruijn32s.map fun (n : Nat) => (n : Int)) := by kernel_rfl
theorem d_deBruijn64s {H : Type} : (Rows.laid_math_bits_deBruijn64tab : DataW H) = Lib.tabData .u8 (deBruijn64s.map fun (n : Nat) => (n : Int)) := by kernel_rfl
theorem d_pow10s {H : Type} : (Rows.laid_internal_strconv_uint64pow10 : DataW H) = Lib.tabData .u64 (pow10s.map fun (n : Nat) => (n : Int)) := by kernel_rfl
theorem tables {W : World} (h : laidMetH Tryz.prog Rows.reachLimitsRow.laid W) : KP Tryz.prog W F0 := by
  have h3 : laidMet Tryz.prog (("math/bits.deBruijn32tab", Rows.laid_math_bits_deBruijn32tab) :: ("math/bits.deBruijn64tab", Rows.laid_math_bits_deBruijn64tab) :: ("internal/strconv.uint64pow10", Rows.laid_internal_strconv_uint64pow10) :: []) W := h
  rw [d_deBruijn32s, d_deBruijn64s, d_pow10s] at h3
  have h2 := laidMet.tail h3
  have h1 := laidMet.tail h2
  exact kp_of (Lib.tabIs_of_head (g := 3) (t := 258) (e := 190) (by kernel_rfl) (by kernel_rfl) Tryz.underlying258 Tryz.underlying190 (by kernel_rfl) (by kernel_rfl) h1) (Lib.tabIs_of_head (g := 5) (t := 214) (e := 5) (by kernel_rfl) (by kernel_rfl) Tryz.underlying214 Tryz.underlying5 (by kernel_rfl) (by kernel_rfl) h2) (Lib.tabIs_of_head (g := 4) (t := 261) (e := 5) (by kernel_rfl) (by kernel_rfl) Tryz.underlying261 Tryz.underlying5 (by kernel_rfl) (by kernel_rfl) h3)
theorem contract (H : Type) (enc : TypeId × Value → H) (W : World) (base : Nat) (args : Array Value) (ds gs : List (DataW H)) (before : List MemPlace)
    (hval : ∀ (j : Nat) t v, Tryz.f6.params[j]? = some t → args[j]? = some v → Value.okWide Tryz.prog W .any base t v)
    (hW : DataW.Whole enc Tryz.prog Tryz.f6.params.toList Rows.reachLimitsSpec.vars false W args.toList ds gs before) (hL : laidMetH Tryz.prog Rows.reachLimitsRow.laid W) :
    Calls Tryz.prog 6 args W fun e W' => ∃ v, e = .returned v ∧ Rows.reachLimitsSpec.post enc Tryz.prog Tryz.f6 false true false false W args v W' := by
  have hW' := hW
  obtain ⟨p, q, hA0, hV, rfl, hfz, hnd⟩ := hW
  have hA : DataW.TrodAll enc Tryz.prog W 0 (fun _ => true) true Tryz.f6.params.toList args.toList ds p := hA0
  rw [Tryz.params6] at hA hval
  obtain ⟨v0, vs0, d0, ds0, p0, q0, hargs, rfl, rfl, g0, r0⟩ := trodAll_cons hA
  obtain ⟨v1, vs1, d1, ds1, p1, q1, rfl, rfl, rfl, g1, r1⟩ := trodAll_cons r0
  obtain ⟨rfl, rfl, rfl⟩ := trodAll_nil r1
  obtain rfl : args = #[v0, v1] := by cases args; simp_all
  obtain ⟨rfl, rfl⟩ := trodVars_none hV
  obtain ⟨a0, b0⟩ := opens_sl Tryz.underlying22 O22 (hval 0 22 v0 rfl rfl) g0
  obtain ⟨a1, b1⟩ := opens_sl Tryz.underlying23 O23 (hval 1 23 v1 rfl rfl) g1
  have hlt : ∀ x, x ∈ p0 ++ p1 → x.block < W.heap.size := fun x hx => by simpa using hW'.lt x (by simpa using hx)
  refine (FnP.call (limits_c a0 a1) (tables hL) (vs := [v0, v1]) ⟨b0, b1, trivial⟩).mono fun e W' ⟨he, hg⟩ => ?_
  subst he
  have hlo : laidOutB Tryz.prog = true := by kernel_rfl
  have k1 := Below.trod hlo (by kernel_rfl) (of_decide_eq_true (by kernel_rfl)) g1 hg (fun x hx => hlt x (by simp [hx]))
  have k0 := Below.trod hlo (by kernel_rfl) (of_decide_eq_true (by kernel_rfl)) g0 hg (fun x hx => hlt x (by simp [hx]))
  exact ⟨_, rfl, _, _, _, [], _, [], hW', trodAll_cons_mk (shut_bool Tryz.underlying4 _) trodAll_mk0, (trodAll_cons_mk k0 (trodAll_cons_mk k1 trodAll_mk0)), rfl, World.keptBut_mono (fun _ h => h.elim) (hg.frame (fun _ => False)), fun h => by cases h⟩
def setTab (vs : List Value) : Obj → Obj
  | .cells _ t frozen => .cells vs.toArray t frozen
  | o => o
noncomputable def laidWorld (os : Os) : World :=
  { World.holding Tryz.prog os ⟨#[], #[], []⟩ with heap := ((((World.holding Tryz.prog os ⟨#[], #[], []⟩).heap.modify 4 (setTab (deBruijn32s.map fun (n : Nat) => Value.int .u8 (n : Int)))).modify 5 (setTab (deBruijn64s.map fun (n : Nat) => Value.int .u8 (n : Int)))).modify 3 (setTab (pow10s.map fun (n : Nat) => Value.int .u64 (n : Int)))) }
theorem laid_met (os : Os) : laidMet Tryz.prog Rows.reachLimitsRow.laid ((laidWorld os).forCall (fun _ _ => 0) ⟨#[], #[.slice none 0 0, .slice none 0 0], []⟩).memory :=
  laidMet_of_run' 8 (by kernel_rfl) (by kernel_rfl)
theorem reads (os : Os) {H : Type} (enc : TypeId × Value → H) : ∃ places, DataW.whole enc Tryz.prog ((laidWorld os).forCall (fun _ _ => 0) ⟨#[], #[.slice none 0 0, .slice none 0 0], []⟩).memory Tryz.f6.params.toList Rows.reachLimitsSpec.vars false (#[.slice none 0 0, .slice none 0 0] : Array Value).toList 8 = some ([.nil, .nil], [], places) :=
  ⟨[], by kernel_rfl⟩
theorem lifted (os : Os) (started : os.Started) (H : Type) (enc : TypeId × Value → H) (F : Stop.Interp) :
    ReturnsInHanded {} Tryz.checked os 6 .any ((OpenSpec.ofChange Rows.reachLimitsSpec).preRow enc Tryz.prog Tryz.f6 Rows.reachLimitsRow.domain false Rows.reachLimitsRow.laid) (((OpenSpec.ofChange Rows.reachLimitsSpec).at F).post enc Tryz.prog Tryz.f6 false true false false) := by
  obtain ⟨places, hx⟩ := reads os enc
  refine returnsInHanded_of_row (C := Tryz.checked) (s := OpenSpec.ofChange Rows.reachLimitsSpec) own started (by kernel_rfl) Tryz.func6
    (witness_row_at (enc := enc) (C := Tryz.checked) false (laidWorld os) #[.slice none 0 0, .slice none 0 0] rfl (by kernel_rfl) (by kernel_rfl) (by kernel_rfl)
      (OpenSpec.preRow_of_cond 8 hx (by kernel_rfl) (fun k hk => by cases hk) (by kernel_rfl) (laid_met os))) ?_
  intro W base args ds gs before hval hW _ _ _ hL _ _
  exact contract H enc W base args ds gs before hval hW hL
theorem said : Rows.ReachLimitsSaid :=
  OpenClaim.holds_of_cond 6 Tryz.f6 rfl rfl rfl rfl rfl rfl rfl ⟨rfl, rfl, rfl, rfl, rfl⟩ rfl rfl rfl rfl rfl (by kernel_rfl) Tryz.func6 (by kernel_rfl)
    (of_decide_eq_true (by kernel_rfl)) (by unfold Func.isWrapper; first | (rw [if_pos (by decide +kernel)]; kernel_rfl) | (rw [if_neg (by decide +kernel)]; exact ⟨rfl, rfl⟩))
    (fun os started H enc _ F => by rw [OpenClaim.pre_eq_preRow]; exact lifted os started H enc F)
theorem plain (f : FuncId) (fn : Func) (hf : Tryz.pinned.checked.prog.funcNamed "trove/trovelaw23.ReachLimits" = some f) (hfn : Tryz.pinned.checked.prog.funcs[f]? = some fn) :
    false = Tryz.pinned.checked.prog.looks [] ∧ ∀ (j : Nat) t, fn.params[j]? = some t → Tryz.pinned.checked.prog.wantsStandIn t = false := by
  obtain rfl : f = 6 := Option.some.inj ((show Tryz.prog.funcNamed "trove/trovelaw23.ReachLimits" = some 6 by kernel_rfl).symm.trans hf) |>.symm
  obtain rfl : fn = Tryz.f6 := (Option.some.inj (Tryz.func6.symm.trans hfn)).symm
  refine ⟨by kernel_rfl, fun j t ht => ?_⟩
  rw [Tryz.params6] at ht
  have hm := Array.mem_of_getElem? ht
  simp only [List.mem_toArray, List.mem_cons, List.not_mem_nil, or_false] at hm
  rcases hm with rfl | rfl
  · exact (show Tryz.prog.wantsStandIn 22 = false by kernel_rfl)
  · exact (show Tryz.prog.wantsStandIn 23 = false by kernel_rfl)
theorem card : Rows.ReachLimitsCardSaid :=
  Claim7.holds_tied_plain_at .later [] _ _ _ _ said (fun _ h => by cases h) (by kernel_rfl) (fun _ h => by cases h) reachLimits_row_tie rfl ⟨rfl, rfl⟩ (by kernel_rfl) rfl plain (by kernel_rfl)
#print axioms card
end Go.Proofs.YtejlcnbhaagdjaaGreatDoor.reachLimits
