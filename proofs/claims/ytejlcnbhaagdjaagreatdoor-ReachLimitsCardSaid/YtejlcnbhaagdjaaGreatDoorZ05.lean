/- Lemmas for the statement below: steps of the walk. Conditions: none of their own. -/
import Derived.Test.YtejlcnbhaagdjaaGreatDoorZ04
import Derived.Deep.Slices
import Derived.OpenShut
import Derived.Carry
import Derived.Lib.LaidTab
import Derived.Stop.LaidErr
set_option linter.unusedSimpArgs false
set_option linter.unusedVariables false
set_option linter.unusedSectionVars false
namespace Go.Sep
open Go Go.Proofs
open Enc (V)
theorem putM_len (m : Objs) (k : Int) (d : Bs) : (putM m k d).length ≤ m.length + 1 := by
  unfold putM; split
  · exact mset_len _ _ _
  · omega
theorem putM_fits {m : Objs} {k : Int} {d : Bs} (h : Fits m) : Fits (putM m k d) := by
  unfold putM
  split
  · rename_i hc
    intro x y hy
    rw [mget_mset] at hy
    split at hy
    · obtain rfl := Option.some.inj hy; have := check_len hc; simp only; omega
    · exact h _ _ hy
  · exact h
theorem fold_made : ∀ (l : List Thing) (m : Objs), Fits m → Fits (l.foldl (fun m t => putM m t.1 t.2) m) ∧ (l.foldl (fun m t => putM m t.1 t.2) m).length ≤ m.length + l.length
  | [], m, h => ⟨h, by simp⟩
  | t :: l, m, h => by
    obtain ⟨h1, h2⟩ := fold_made l (putM m t.1 t.2) (putM_fits h)
    have := putM_len m t.1 t.2
    exact ⟨h1, by simp only [List.foldl_cons, List.length_cons] at *; omega⟩
theorem madeM_fits (l : List Thing) : Fits (madeM l) := (fold_made l [] (fun k x h => by simp [mget] at h)).1
theorem madeM_len (l : List Thing) : (madeM l).length ≤ l.length := by have := (fold_made l [] (fun k x h => by simp [mget] at h)).2; simpa [madeM] using this
theorem madeIds_len (l : List Thing) : (madeIds l).length = l.length := by simp [madeIds]
theorem pickIds_len (ids : List Oid) (b : List UInt8) : (pickIds ids b).length ≤ 30 := by
  unfold pickIds
  split
  · simp
  · rw [pickN_len]; omega
theorem Found.le {m : Objs} {fr F : List Oid} (h : Found (egM m) fr F) : F.length ≤ m.length := by
  have := nodup_len_le (m := mkeys m) h.1.nodup fun x hx => egM_some ((h.2 x).1 hx).2
  rwa [mkeys_len] at this
theorem WalkP.ok {m : Objs} {fr F L : List Oid} {most : Int} {q : List Oid × List Oid × Int} (h : WalkP m fr most q) (hF : Found (egM m) fr F) (hL : Gone (egM m) fr L) (h1 : (F.length : Int) ≤ most) : q.1 = F ∧ q.2.1 = L ∧ q.2.2 = 0 := by
  obtain ⟨F', L', a, b, rfl⟩ := h
  rw [hF.unique a, hL.unique b] at *
  have e : walkR F' L' most = (F', L', 0) := by unfold walkR; rw [if_neg (by omega)]
  rw [e]; exact ⟨rfl, rfl, rfl⟩
theorem WalkP.long {m : Objs} {fr F : List Oid} {most : Int} {q : List Oid × List Oid × Int} (h : WalkP m fr most q) (hF : Found (egM m) fr F) (h1 : most < (F.length : Int)) (h2 : 0 < F.length) : q.1 = [] ∧ q.2.1 = [] ∧ q.2.2 = 5 := by
  obtain ⟨F', L', a, b, rfl⟩ := h
  obtain rfl := hF.unique a
  have e : walkR F L' most = ([], [], 5) := by unfold walkR; rw [if_pos (by omega)]
  rw [e]; exact ⟨rfl, rfl, rfl⟩
theorem WalkP.none {fr : List Oid} {q : List Oid × List Oid × Int} (h : WalkP [] fr 0 q) : q.1 = [] ∧ q.2.2 = 0 ∧ (fr ≠ [] → q.2.1 ≠ []) := by
  obtain ⟨F, L, a, b, rfl⟩ := h
  have hF : F = [] := List.eq_nil_of_length_eq_zero (by have := a.le; simpa using this)
  subst hF
  have e : walkR [] L 0 = ([], L, 0) := by unfold walkR; rw [if_neg (by simp)]
  rw [e]
  refine ⟨rfl, rfl, fun hfr hL => ?_⟩
  cases fr with
  | nil => exact hfr rfl
  | cons x l =>
    have := (b.2 x).2 ⟨⟨0, List.mem_cons_self ..⟩, by simp [egM, mget]⟩
    simp only at hL
    rw [hL] at this; cases this
attribute [local irreducible] Quiet QStep J At FnX Fn FnP Repl Split Has Post Back GoZ
attribute [local irreducible] putM putId madeM madeIds pickIds egM
set_option maxRecDepth 100000
theorem limits_c (l : List Thing) (b : Bytes) : FnP Tryz.prog 6 [Sl l, Sl b] (VBool true) := by
  refine FnP_intro (by kernel_rfl) Tryz.func6 rfl Tryz.ntmps6 rfl (fun e => ?_)
  refine J_lenLe (t := 0) rfl (fun hl0 => ?_)
  refine J_lenLe (t := 1) rfl (fun hl1 => ?_)
  refine JSR ?_
  refine JQ (Q_assign At.bool) rfl ?_
  refine JNSSR ?_
  refine JQ (Q_call (known_c) trivial) rfl ?_
  refine JQ (Q_not (.tmp rfl)) rfl ?_
  refine JN ?_
  refine J_cond (.tmp rfl) (fun h0 => ?_) (fun h0 => ?_)
  · try simp only [BS, ne_eq] at h0
    cases h0
  try simp only [BS, ne_eq] at h0
  refine J_skip ?_
  refine J_then_normal ?_
  refine J_seq ?_
  refine JSR ?_
  refine JM rfl rfl ?_
  refine JQ (Q_call (rFew_v _ (by first | omega | simp <;> omega)) ⟨(.tmp rfl), trivial⟩) rfl ?_
  refine J_open (t := 24) rfl (fun c hc => ?_)
  refine JQ (Q_not (.tmp rfl)) rfl ?_
  refine JN ?_
  refine J_cond (.tmp rfl) (fun h1 => ?_) (fun h1 => ?_)
  · try simp only [BS, ne_eq] at h1
    refine JSR ?_
    refine JQ (Q_assign At.bool) rfl ?_
    refine JN ?_
    refine J_retc ?_
    refine J_then_ret ?_
    exact J_ret1 rfl (ResAt.tmp rfl) () trivial Split.nil imp_refl
  try simp only [BS, ne_eq] at h1
  have hs : smallT l := hc (by simpa using h1)
  have hml := madeM_len l
  have hil := madeIds_len l
  have hpl := pickIds_len (madeIds l) b
  have hs30 := hs.1
  refine J_skip ?_
  refine J_then_normal ?_
  refine JSR ?_
  refine JM rfl rfl ?_
  refine J_call (made_c l hs) ⟨(.tmp rfl), trivial⟩ Split.nil rfl (fun r28 hr28 => ?_)
  refine JM rfl rfl ?_
  refine JQ (Q_extract (.tmp rfl) rfl) rfl ?_
  refine JQ (Q_extract (.tmp rfl) rfl) rfl ?_
  refine JQ (Q_extract (.tmp rfl) rfl) rfl ?_
  refine JA rfl rfl ?_
  refine JA rfl rfl ?_
  refine JA rfl rfl ?_
  refine JNSR ?_
  refine JM rfl rfl ?_
  refine JM rfl rfl ?_
  refine JQ (Q_call (pick_c _ _ (by first | omega | simp <;> omega) (by first | omega | simp <;> omega)) ⟨(.tmp rfl), (.tmp rfl), trivial⟩) rfl ?_
  refine JA rfl rfl ?_
  refine JN ?_
  refine J_seq ?_
  refine J_freezeM (t := 5) (m := madeM l) rfl (by repeat first | exact R0 | apply RT) ?_
  refine J_region ?_
  refine JM rfl rfl ?_
  refine JQ (Q_mkIface (by kernel_rfl) (.tmp rfl)) rfl ?_
  refine JM rfl rfl ?_
  refine J_call (rwalk_c (madeM l) (pickIds (madeIds l) b) 1000 (madeM_fits l) (by first | omega | simp <;> omega) (by first | omega | simp <;> omega)) ⟨(.tmp rfl), (.tmp rfl), At.int, trivial⟩ Split.nil rfl (fun r39 hr39 => ?_)
  obtain ⟨F, L, hF, hL, _⟩ := id hr39
  have hFl := hF.le
  obtain ⟨v1, v2, v3⟩ := hr39.ok hF hL (by first | omega | simp <;> omega)
  clear hr39
  obtain ⟨F39, L39, x39⟩ := r39
  dsimp only at v1 v2 v3
  subst v1
  refine JM rfl rfl ?_
  refine JQ (Q_extract (.tmp rfl) rfl) rfl ?_
  refine JQ (Q_extract (.tmp rfl) rfl) rfl ?_
  refine JQ (Q_extract (.tmp rfl) rfl) rfl ?_
  refine JA rfl rfl ?_
  refine JA rfl rfl ?_
  refine JA rfl rfl ?_
  refine JNSR ?_
  refine JM rfl rfl ?_
  refine JQ (Q_mkIface (by kernel_rfl) (.tmp rfl)) rfl ?_
  refine JM rfl rfl ?_
  refine JM rfl rfl ?_
  refine JQ (Q_len Tryz.underlying29 rfl (.tmp rfl)) rfl ?_
  refine J_call (rwalk_c (madeM l) (pickIds (madeIds l) b) _ (madeM_fits l) (by first | omega | simp <;> omega) (by first | omega | simp <;> omega)) ⟨(.tmp rfl), (.tmp rfl), (.tmp rfl), trivial⟩ Split.nil rfl (fun r49 hr49 => ?_)
  obtain ⟨w1, w2, w3⟩ := hr49.ok hF hL (by first | omega | simp <;> omega)
  refine JM rfl rfl ?_
  refine JQ (Q_extract (.tmp rfl) rfl) rfl ?_
  refine JQ (Q_extract (.tmp rfl) rfl) rfl ?_
  refine JQ (Q_extract (.tmp rfl) rfl) rfl ?_
  refine JA rfl rfl ?_
  refine JA rfl rfl ?_
  refine JA rfl rfl ?_
  refine JNSSR ?_
  refine JM rfl rfl ?_
  refine JQ (Q_neq (.tmp rfl) At.int) rfl ?_
  refine JM rfl rfl ?_
  refine J_qstep (QG rfl rfl rfl rfl rfl opt_bool (fun hg => Q_move (.tmp rfl))) rfl rfl ?_
  refine J_qstep (QG rfl rfl rfl rfl rfl opt_bool (fun hg => (by have hg0 := hg; simp only [BS, ne_eq] at hg0; exact Q_len Tryz.underlying29 rfl (At.opt rfl (by first | exact hg | (simp only [BS, ne_eq] at hg ⊢; first | exact hg | simp_all)))))) rfl rfl ?_
  refine J_qstep (QG rfl rfl rfl rfl rfl opt_bool (fun hg => Q_move (.tmp rfl))) rfl rfl ?_
  refine J_qstep (QG rfl rfl rfl rfl rfl opt_bool (fun hg => (by have hg0 := hg; simp only [BS, ne_eq] at hg0; exact Q_len Tryz.underlying29 rfl (At.opt rfl (by first | exact hg | (simp only [BS, ne_eq] at hg ⊢; first | exact hg | simp_all)))))) rfl rfl ?_
  refine J_qstep (QG rfl rfl rfl rfl rfl opt_bool (fun hg => (by have hg0 := hg; simp only [BS, ne_eq] at hg0; exact Q_neq (At.opt rfl (by first | exact hg | (simp only [BS, ne_eq] at hg ⊢; first | exact hg | simp_all))) (At.opt rfl (by first | exact hg | (simp only [BS, ne_eq] at hg ⊢; first | exact hg | simp_all)))))) rfl rfl ?_
  refine JQ (Q_orB (.tmp rfl) (fun hb => At.opt rfl (by simp only [BS, ne_eq] at hb ⊢; first | exact hb | simp_all))) rfl ?_
  refine JN ?_
  refine J_cond (.tmp rfl) (fun h2 => ?_) (fun h2 => ?_)
  · try simp only [BS, ne_eq] at h2
    simp [w1, w3] at h2
  try simp only [BS, ne_eq] at h2
  refine J_skip ?_
  refine J_then_normal ?_
  refine JSR ?_
  refine J_makeMap (Arr 20 UInt8) (Int × (List UInt8)) rfl (fun b63 => ?_)
  refine J_freezeM (t := 63) (m := ([] : Objs)) rfl (by repeat first | exact R0 | apply RT) ?_
  refine JQ (Q_mkIface (by kernel_rfl) (.tmp rfl)) rfl ?_
  refine JM rfl rfl ?_
  refine J_call (rwalk_c [] (pickIds (madeIds l) b) 0 (fun k x h => by simp [mget] at h) (by simp) (by first | omega | simp <;> omega)) ⟨(.tmp rfl), (.tmp rfl), At.int, trivial⟩ Split.nil rfl (fun r66 hr66 => ?_)
  obtain ⟨u1, u2, u3⟩ := hr66.none
  refine JM rfl rfl ?_
  refine JQ (Q_extract (.tmp rfl) rfl) rfl ?_
  refine JQ (Q_extract (.tmp rfl) rfl) rfl ?_
  refine JQ (Q_extract (.tmp rfl) rfl) rfl ?_
  refine JA rfl rfl ?_
  refine JA rfl rfl ?_
  refine JA rfl rfl ?_
  refine JNSSR ?_
  refine JM rfl rfl ?_
  refine JQ (Q_neq (.tmp rfl) At.int) rfl ?_
  refine JM rfl rfl ?_
  refine J_qstep (QG rfl rfl rfl rfl rfl opt_bool (fun hg => Q_move (.tmp rfl))) rfl rfl ?_
  refine J_qstep (QG rfl rfl rfl rfl rfl opt_bool (fun hg => (by have hg0 := hg; simp only [BS, ne_eq] at hg0; exact Q_len Tryz.underlying29 rfl (At.opt rfl (by first | exact hg | (simp only [BS, ne_eq] at hg ⊢; first | exact hg | simp_all)))))) rfl rfl ?_
  refine J_qstep (QG rfl rfl rfl rfl rfl opt_bool (fun hg => (by have hg0 := hg; simp only [BS, ne_eq] at hg0; exact Q_neq (At.opt rfl (by first | exact hg | (simp only [BS, ne_eq] at hg ⊢; first | exact hg | simp_all))) At.int))) rfl rfl ?_
  refine JQ (Q_orB (.tmp rfl) (fun hb => At.opt rfl (by simp only [BS, ne_eq] at hb ⊢; first | exact hb | simp_all))) rfl ?_
  refine JM rfl rfl ?_
  refine J_qstep (QG rfl rfl rfl rfl rfl opt_bool (fun hg => Q_move (.tmp rfl))) rfl rfl ?_
  refine J_qstep (QG rfl rfl rfl rfl rfl opt_bool (fun hg => (by have hg0 := hg; simp only [BS, ne_eq] at hg0; exact Q_len Tryz.underlying29 rfl (At.opt rfl (by first | exact hg | (simp only [BS, ne_eq] at hg ⊢; first | exact hg | simp_all)))))) rfl rfl ?_
  refine J_qstep (QG rfl rfl rfl rfl rfl opt_bool (fun hg => (by have hg0 := hg; simp only [BS, ne_eq] at hg0; exact Q_gtr (At.opt rfl (by first | exact hg | (simp only [BS, ne_eq] at hg ⊢; first | exact hg | simp_all))) At.int))) rfl rfl ?_
  refine J_qstep (QG rfl rfl rfl rfl rfl opt_bool (fun hg => (by have hg0 := hg; simp only [BS, ne_eq] at hg0; exact Q_move (At.opt rfl (by first | exact hg | (simp only [BS, ne_eq] at hg ⊢; first | exact hg | simp_all)))))) rfl rfl ?_
  refine J_qstep (QG rfl rfl rfl rfl rfl opt_opt (fun hg => Q_move (.tmp rfl))) rfl rfl ?_
  refine J_qstep (QG rfl rfl rfl rfl rfl opt_opt (fun hg => (by have hg0 := hg; simp only [BS, ne_eq] at hg0; exact Q_len Tryz.underlying29 rfl (At.opt rfl (by first | exact hg | (simp only [BS, ne_eq] at hg ⊢; first | exact hg | simp_all)))))) rfl rfl ?_
  refine J_qstep (QG rfl rfl rfl rfl rfl opt_opt (fun hg => (by have hg0 := hg; simp only [BS, ne_eq] at hg0; exact Q_eql (At.opt rfl (by first | exact hg | (simp only [BS, ne_eq] at hg ⊢; first | exact hg | simp_all))) At.int))) rfl rfl ?_
  refine J_qstep (QG rfl rfl rfl rfl rfl opt_bool (fun hg => (by have hg0 := hg; simp only [BS, ne_eq] at hg0; exact Q_andB (At.opt rfl (by first | exact hg | (simp only [BS, ne_eq] at hg ⊢; first | exact hg | simp_all))) (fun hb => At.opt rfl (by simp only [BS, ne_eq] at hb ⊢; first | exact hb | simp_all))))) rfl rfl ?_
  refine JQ (Q_orB (.tmp rfl) (fun hb => At.opt rfl (by simp only [BS, ne_eq] at hb ⊢; first | exact hb | simp_all))) rfl ?_
  refine JN ?_
  refine J_cond (.tmp rfl) (fun h3 => ?_) (fun h3 => ?_)
  · try simp only [BS, ne_eq] at h3
    exact absurd h3 (by simp [u1, u2]; intro h; exact u3 (List.ne_nil_of_length_pos h))
  try simp only [BS, ne_eq] at h3
  refine J_skip ?_
  refine J_then_normal ?_
  refine J_seq ?_
  refine JSR ?_
  refine JM rfl rfl ?_
  refine JQ (Q_len Tryz.underlying29 rfl (.tmp rfl)) rfl ?_
  refine JQ (Q_eql (.tmp rfl) At.int) rfl ?_
  refine JN ?_
  refine J_cond (.tmp rfl) (fun h4 => ?_) (fun h4 => ?_)
  · try simp only [BS, ne_eq] at h4
    refine JSR ?_
    refine JQ (Q_assign At.bool) rfl ?_
    refine JN ?_
    refine J_retc ?_
    refine J_then_ret ?_
    exact J_ret1 rfl (ResAt.tmp rfl) () trivial Split.nil imp_refl
  try simp only [BS, ne_eq] at h4
  refine J_skip ?_
  refine J_then_normal ?_
  refine JSR ?_
  refine JM rfl rfl ?_
  refine JQ (Q_mkIface (by kernel_rfl) (.tmp rfl)) rfl ?_
  refine JM rfl rfl ?_
  refine JM rfl rfl ?_
  refine JQ (Q_len Tryz.underlying29 rfl (.tmp rfl)) rfl ?_
  refine JQ (Q_subi (.tmp rfl) At.int (by first | omega | simp <;> omega) (by first | omega | simp <;> omega)) rfl ?_
  refine J_call (rwalk_c (madeM l) (pickIds (madeIds l) b) _ (madeM_fits l) (by first | omega | simp <;> omega) (by first | omega | simp <;> omega)) ⟨(.tmp rfl), (.tmp rfl), (.tmp rfl), trivial⟩ Split.nil rfl (fun r97 hr97 => ?_)
  obtain ⟨t1, t2, t3⟩ := hr97.long hF (by first | omega | simp <;> omega) (by first | omega | simp <;> omega)
  have t4 : r97.1.length = 0 := by rw [t1]; rfl
  have t5 : r97.2.1.length = 0 := by rw [t2]; rfl
  refine JM rfl rfl ?_
  refine JQ (Q_extract (.tmp rfl) rfl) rfl ?_
  refine JQ (Q_extract (.tmp rfl) rfl) rfl ?_
  refine JQ (Q_extract (.tmp rfl) rfl) rfl ?_
  refine JA rfl rfl ?_
  refine JA rfl rfl ?_
  refine JA rfl rfl ?_
  refine JNSR ?_
  refine JM rfl rfl ?_
  refine JQ (Q_eql (.tmp rfl) At.int) rfl ?_
  refine JM rfl rfl ?_
  refine J_qstep (QG rfl rfl rfl rfl rfl opt_bool (fun hg => Q_move (.tmp rfl))) rfl rfl ?_
  refine J_qstep (QG rfl rfl rfl rfl rfl opt_bool (fun hg => (by have hg0 := hg; simp only [BS, ne_eq] at hg0; exact Q_len Tryz.underlying29 rfl (At.opt rfl (by first | exact hg | (simp only [BS, ne_eq] at hg ⊢; first | exact hg | simp_all)))))) rfl rfl ?_
  refine J_qstep (QG rfl rfl rfl rfl rfl opt_bool (fun hg => Q_move (.tmp rfl))) rfl rfl ?_
  refine J_qstep (QG rfl rfl rfl rfl rfl opt_bool (fun hg => (by have hg0 := hg; simp only [BS, ne_eq] at hg0; exact Q_len Tryz.underlying29 rfl (At.opt rfl (by first | exact hg | (simp only [BS, ne_eq] at hg ⊢; first | exact hg | simp_all)))))) rfl rfl ?_
  refine J_qstep (QG rfl rfl rfl rfl rfl opt_bool (fun hg => (by have hg0 := hg; simp only [BS, ne_eq] at hg0; exact Q_addi (At.opt rfl (by first | exact hg | (simp only [BS, ne_eq] at hg ⊢; first | exact hg | simp_all))) (At.opt rfl (by first | exact hg | (simp only [BS, ne_eq] at hg ⊢; first | exact hg | simp_all))) (by first | omega | simp <;> omega) (by first | omega | simp <;> omega)))) rfl rfl ?_
  refine J_qstep (QG rfl rfl rfl rfl rfl opt_bool (fun hg => (by have hg0 := hg; simp only [BS, ne_eq] at hg0; exact Q_eql (At.opt rfl (by first | exact hg | (simp only [BS, ne_eq] at hg ⊢; first | exact hg | simp_all))) At.int))) rfl rfl ?_
  refine JQ (Q_andB (.tmp rfl) (fun hb => At.opt rfl (by simp only [BS, ne_eq] at hb ⊢; first | exact hb | simp_all))) rfl ?_
  refine JA rfl rfl ?_
  refine JN ?_
  refine J_retc ?_
  exact J_ret1 rfl (ResAt.tmp rfl) () trivial Split.nil (imp_eq (congrArg VBool (by simp [t1, t2, t3])))
end Go.Sep
namespace Go.Sep
open Go Go.ChangeShapes Go.WideShapes
open Enc (V)
def F0 : Nat → Prop := fun _ => False
def Opens (P : Program) (t : TypeId) (α : Type) [Enc α] : Prop :=
  P.cellsOf t = Enc.size α ∧ ∀ (H : Type) (enc : TypeId × Value → H) (w : World) (sp : Nat → Bool) (held : Bool) (fuel : Nat) (cs : List Value) (d : DataW H × List MemPlace), DataW.trod enc P w 0 sp held fuel t cs = some d → ∃ x : α, (Enc.cp x).rep w F0 cs
section
variable {P : Program} {t : TypeId} {α β γ : Type} [Enc α] [Enc β] [Enc γ]
theorem opens_int (hc : P.cellsOf t = 1) (ht : P.underlying t = some (.int .i64)) : Opens P t Int := ⟨hc, fun H enc w sp held fuel cs d h => by
  obtain ⟨n, rfl, _⟩ := DataW.trod_int ht h; exact ⟨n, rfl⟩⟩
theorem opens_u8 (hc : P.cellsOf t = 1) (ht : P.underlying t = some (.int .u8)) : Opens P t UInt8 := ⟨hc, fun H enc w sp held fuel cs d h => by
  obtain ⟨n, rfl, _, hw⟩ := DataW.trod_int ht h
  simp only [Lit.wf, Bool.and_eq_true, decide_eq_true_eq] at hw
  have h1 : (0 : Int) ≤ n := hw.1
  have h2 : n ≤ (255 : Int) := hw.2
  refine ⟨UInt8.ofNat n.toNat, ?_⟩
  show [Value.int .u8 n] = [Value.int .u8 (((UInt8.ofNat n.toNat).toNat : Nat) : Int)]
  rw [UInt8.toNat_ofNat', Nat.mod_eq_of_lt (by omega), Int.toNat_of_nonneg h1]⟩
theorem opens_pair {f0 f1 : Field} (hc : P.cellsOf t = Enc.size α + Enc.size β) (ht : P.underlying t = some (.struct #[f0, f1])) (o0 : f0.offset = 0) (o1 : f1.offset = Enc.size α) (h0 : Opens P f0.type α) (h1 : Opens P f1.type β) : Opens P t (α × β) := ⟨hc, fun H enc w sp held fuel cs d h => by
  obtain ⟨xs, n, rfl, rfl, hl, hx, hf⟩ := DataW.trod_struct ht h
  have e0 := hf 0 f0 rfl
  have e1 := hf 1 f1 rfl
  have hx2 : xs.length = 2 := hx
  rw [List.getElem?_eq_getElem (by omega)] at e0 e1
  obtain ⟨a, ha⟩ := h0.2 _ _ _ _ _ _ _ _ e0
  obtain ⟨b, hb⟩ := h1.2 _ _ _ _ _ _ _ _ e1
  refine ⟨(a, b), _, _, ?_, ha, hb⟩
  rw [o0, o1, h0.1, h1.1, List.drop_zero]
  rw [hc] at hl
  rw [show (cs.drop (Enc.size α)).take (Enc.size β) = cs.drop (Enc.size α) from List.take_of_length_le (by simp; omega), List.take_append_drop]⟩
theorem opens_rowU {w : World} {a : Addr} {len : Nat} (g : ∀ i, i < len → ∃ cs, w.cells? 0 (a.add (i * Enc.size α)) (Enc.size α) = some cs ∧ ∃ x : α, (Enc.cp x).rep w F0 cs) : ∀ k, k ≤ len → ∃ (l : List α) (xs : List Value), l.length = k ∧ (cpl l).rep w F0 xs ∧ ∀ j u, xs[j]? = some u → w.cell? (a.add j) = some u
  | 0, _ => ⟨[], [], rfl, rfl, fun j u h => by simp at h⟩
  | k + 1, hk => by
    obtain ⟨l, xs, e1, e2, e3⟩ := opens_rowU g k (by omega)
    obtain ⟨cs, c1, x, hx⟩ := g k (by omega)
    obtain ⟨_, c2, c3⟩ := World.cells?_some c1
    have hxl := cpl_len e2
    refine ⟨l ++ [x], xs ++ cs, by simp [e1], cpl_append e2 (cpl_single hx), fun j u hj => ?_⟩
    by_cases hlt : j < xs.length
    · rw [List.getElem?_append_left hlt] at hj; exact e3 j u hj
    · rw [List.getElem?_append_right (by omega)] at hj
      have hj2 := (List.getElem?_eq_some_iff.1 hj).1
      have := c3 (j - xs.length) (by omega)
      rw [Deep.add_add, hj, show k * Enc.size α + (j - xs.length) = j by rw [hxl, e1]; rw [hxl, e1] at hlt; omega] at this
      exact this
theorem opens_list {e : TypeId} (hc : P.cellsOf t = 1) (ht : P.underlying t = some (.slice e)) (hp : Enc.size α ≠ 0) (he : Opens P e α) : Opens P t (List α) := ⟨hc, fun H enc w sp held fuel cs d h => by
  rcases Deep.open_slice ht h with ⟨rfl, _⟩ | ⟨a, len, cap, m, n, D, Pl, rfl, _, hl, hm, hmm, _, hx⟩
  · exact ⟨[], _, rfl, Sl_nil _ _⟩
  · have hlm : len ≤ m := by rw [hmm]; split <;> omega
    obtain ⟨l, xs, e1, e2, e3⟩ := opens_rowU (α := α) (w := w) (a := a) (len := len) (fun i hi => by
      obtain ⟨cs', c1, c2⟩ := hx i (by omega)
      rw [he.1] at c1
      exact ⟨cs', c1, he.2 _ _ _ _ _ _ _ _ c2⟩) len (Nat.le_refl _)
    refine ⟨l, _, rfl, some a, cap, xs, by rw [e1], by omega, hm, (fun h => by cases h), e2, fun hn => ?_⟩
    have hxl := cpl_len e2
    have hlp : 0 < l.length := List.length_pos_iff.2 hn
    have h0 : 0 < xs.length := by rw [hxl]; exact Nat.mul_pos hlp (Nat.pos_of_ne_zero hp)
    have hc0 := e3 0 _ (List.getElem?_eq_getElem h0)
    have ha : a.add 0 = a := by simp [Addr.add]
    rw [ha] at hc0
    have hs := World.cell?_spot hc0
    obtain ⟨b, off, s⟩ := a
    obtain rfl : s = none := hs
    refine ⟨b, off, rfl, fun h => h, ?_, fun j u hj => ?_⟩
    · unfold World.cell? at hc0
      cases hb : w.heap[b]? with
      | none => simp [hb] at hc0
      | some o => exact (Array.getElem?_eq_some_iff.1 hb).1
    · rw [← addr_add]; exact e3 j u hj⟩
theorem opens_sl {H : Type} {enc : TypeId × Value → H} {w : World} {sp : Nat → Bool} {held : Bool} {r : _root_.Go.Reach} {b : Nat} {e : TypeId} {v : Value} {d : DataW H} {ps : List MemPlace} (ht : P.underlying t = some (.slice e)) (ho : Opens P t (List α)) (hval : Value.okWide P w r b t v) (hd : DataW.Trod enc P w 0 sp held t v d ps) : ∃ l : List α, (Sl l).rep w F0 v := by
  obtain ⟨a, len, cap, rfl⟩ := okWide_slice ht hval
  obtain ⟨fuel, hf⟩ := hd
  obtain ⟨l, v', e1, e2⟩ := ho.2 _ _ _ _ _ _ _ _ hf
  simp [Value.cells] at e1
  subst e1
  exact ⟨l, e2⟩
theorem tab_kp {W : World} {name : String} {k : IntKind} {zs : List Int} (h : Lib.TabIs P W name k zs) {g : Nat} {G : Global} (hg : P.globals[g]? = some G) (hn : G.name = name) : g < W.heap.size ∧ ∃ (el : TypeId) (fr : Nat × Nat), W.heap[g]? = some (.cells (zs.map fun z => Value.int k z).toArray el fr) := by
  unfold Lib.TabIs World.var? at h
  obtain ⟨g0, h0, h1⟩ := Option.bind_eq_some_iff.1 h
  have hg0 : g = g0 := by
    unfold Program.globalNamed at h0
    split at h0
    · rename_i g1 hf
      obtain rfl := Option.some.inj h0
      have : g ∈ (List.range P.globals.size).filter fun g => (P.globals[g]?).any (·.name == name) := List.mem_filter.2 ⟨List.mem_range.2 (Array.getElem?_eq_some_iff.1 hg).1, by rw [hg]; simp [hn]⟩
      rw [hf] at this
      simpa using this
    · cases h0
  subst hg0
  cases hb : W.heap[g]? with
  | none => rw [hb] at h1; cases h1
  | some o =>
    rw [hb] at h1
    cases o with
    | cells cs el fr => obtain rfl := Option.some.inj h1; exact ⟨(Array.getElem?_eq_some_iff.1 hb).1, el, fr, rfl⟩
    | _ => cases h1
theorem kp_of {W : World} (h1 : Lib.TabIs P W "internal/strconv.uint64pow10" .u64 (pow10s.map fun (n : Nat) => (n : Int))) (h2 : Lib.TabIs P W "math/bits.deBruijn64tab" .u8 (deBruijn64s.map fun (n : Nat) => (n : Int))) (h3 : Lib.TabIs P W "math/bits.deBruijn32tab" .u8 (deBruijn32s.map fun (n : Nat) => (n : Int))) : KP P W F0 := by
  intro g G l hg hl
  refine ⟨fun h => h, ?_⟩
  unfold tableOf at hl
  split at hl
  · rename_i hn
    obtain rfl := Option.some.inj hl
    have := tab_kp h1 hg hn
    rwa [List.map_map] at this
  · split at hl
    · rename_i hn
      obtain rfl := Option.some.inj hl
      have := tab_kp h2 hg hn
      rwa [List.map_map] at this
    · split at hl
      · rename_i hn
        obtain rfl := Option.some.inj hl
        have := tab_kp h3 hg hn
        rwa [List.map_map] at this
      · cases hl
theorem FnP.call {f : FuncId} {Xs : List VP} {c : Bool} (h : FnP P f Xs (VBool c)) {W : World} (hk : KP P W F0) {vs : List Value} (ha : Args W F0 Xs vs) : Calls P f vs.toArray W fun e W' => e = .returned (.bool c) ∧ RowKit.Below W.heap.size W W' :=
  (h.2 W F0 vs (fun _ h => h.elim) (fun _ h => by simp at h) (by simp) (fun _ h => by simp at h) hk ha).mono fun e W' ⟨_, v, _, he, hx, _, _, hr, _⟩ => by
    obtain rfl : v = .bool c := hr
    exact ⟨he, hx.os, hx.tape, hx.output, hx.size, fun k hk => hx.block k hk (by simp)⟩
end
end Go.Sep
