/- Lemmas for the statement below: steps of the walk. Conditions: none of their own. -/
import Derived.Test.YtejlcnbhaagdjaaGreatDoorZ01
import Derived.Shelf.Strconv.Itoa3
import Derived.Test.YtejlcnbhaagdjaaGreatDoorProg
import Derived.Lib.ItoaLen
import Derived.Sort.AssemblyPlain
import Derived.Sort.LotD4
set_option linter.unusedSimpArgs false
set_option linter.unusedVariables false
set_option linter.unusedSectionVars false
namespace Go.Proofs
open Go.Shelf
def Tryz.laysItoa_ren : Go.Shelf.Ren := ⟨fun | 171 => 108 | 243 => 143 | 246 => 168 | 283 => 177 | 284 => 178 | 285 => 179 | 286 => 180 | 129 => 119 | 317 => 182 | 318 => 183 | 319 => 184 | 320 => 185 | 337 => 186 | 338 => 187 | n => n, fun | 3 => 3 | 9 => 9 | 2 => 2 | 4 => 4 | 171 => 248 | 0 => 0 | 53 => 190 | 37 => 23 | 5 => 5 | 173 => 250 | 212 => 258 | 51 => 191 | 20 => 20 | 213 => 259 | 46 => 163 | 232 => 261 | 233 => 214 | n => n, fun | 17 => 3 | 18 => 4 | 19 => 5 | n => n⟩
theorem Tryz.laysItoa : Go.Proofs.LaysM.n171 Tryz.prog Tryz.laysItoa_ren := {
  mixed := by kernel_rfl
  f129 := Tryz.func119.trans (congrArg some (by kernel_rfl))
  f171 := Tryz.func108.trans (congrArg some (by kernel_rfl))
  f243 := Tryz.func143.trans (congrArg some (by kernel_rfl))
  f246 := Tryz.func168.trans (congrArg some (by kernel_rfl))
  f283 := Tryz.func177.trans (congrArg some (by kernel_rfl))
  f284 := Tryz.func178.trans (congrArg some (by kernel_rfl))
  f285 := Tryz.func179.trans (congrArg some (by kernel_rfl))
  f286 := Tryz.func180.trans (congrArg some (by kernel_rfl))
  f317 := Tryz.func182.trans (congrArg some (by kernel_rfl))
  f318 := Tryz.func183.trans (congrArg some (by kernel_rfl))
  f319 := Tryz.func184.trans (congrArg some (by kernel_rfl))
  f320 := Tryz.func185.trans (congrArg some (by kernel_rfl))
  f337 := Tryz.func186.trans (congrArg some (by kernel_rfl))
  f338 := Tryz.func187.trans (congrArg some (by kernel_rfl))
  t0 := Tryz.underlying0
  a0 := Tryz.isAgg0
  z0 := Tryz.sizeOf0
  v0 := Tryz.zeroValue0
  t2 := Tryz.underlying2
  a2 := Tryz.isAgg2
  z2 := Tryz.sizeOf2
  v2 := Tryz.zeroValue2
  t3 := Tryz.underlying3
  a3 := Tryz.isAgg3
  z3 := Tryz.sizeOf3
  v3 := Tryz.zeroValue3
  t4 := Tryz.underlying4
  a4 := Tryz.isAgg4
  z4 := Tryz.sizeOf4
  v4 := Tryz.zeroValue4
  t5 := Tryz.underlying5
  a5 := Tryz.isAgg5
  z5 := Tryz.sizeOf5
  v5 := Tryz.zeroValue5
  t9 := Tryz.underlying9
  a9 := Tryz.isAgg9
  z9 := Tryz.sizeOf9
  v9 := Tryz.zeroValue9
  t20 := Tryz.underlying20
  a20 := Tryz.isAgg20
  z20 := Tryz.sizeOf20
  v20 := Tryz.zeroValue20
  t37 := Tryz.underlying23
  a37 := Tryz.isAgg23
  z37 := Tryz.sizeOf23
  v37 := Tryz.zeroValue23
  t46 := Tryz.underlying163
  a46 := Tryz.isAgg163
  z46 := Tryz.sizeOf163
  v46 := Tryz.zeroValue163
  t51 := Tryz.underlying191
  a51 := Tryz.isAgg191
  z51 := Tryz.sizeOf191
  v51 := Tryz.zeroValue191
  t53 := Tryz.underlying190
  a53 := Tryz.isAgg190
  z53 := Tryz.sizeOf190
  v53 := Tryz.zeroValue190
  t171 := Tryz.underlying248
  a171 := Tryz.isAgg248
  z171 := Tryz.sizeOf248
  v171 := Tryz.zeroValue248
  t173 := Tryz.underlying250
  a173 := Tryz.isAgg250
  z173 := Tryz.sizeOf250
  v173 := Tryz.zeroValue250
  t212 := Tryz.underlying258
  a212 := Tryz.isAgg258
  z212 := Tryz.sizeOf258
  v212 := Tryz.zeroValue258
  t213 := Tryz.underlying259
  a213 := Tryz.isAgg259
  z213 := Tryz.sizeOf259
  t232 := Tryz.underlying261
  a232 := Tryz.isAgg261
  z232 := Tryz.sizeOf261
  v232 := Tryz.zeroValue261
  t233 := Tryz.underlying214
  a233 := Tryz.isAgg214
  z233 := Tryz.sizeOf214
  v233 := Tryz.zeroValue214
  g17 := by kernel_rfl
  g18 := by kernel_rfl
  g19 := by kernel_rfl
  i0 := by kernel_rfl
  i2 := by kernel_rfl
  i3 := by kernel_rfl
  i4 := by kernel_rfl
  i5 := by kernel_rfl
  i9 := by kernel_rfl
  i20 := by kernel_rfl
  i37 := by kernel_rfl
  i46 := by kernel_rfl
  i51 := by kernel_rfl
  i53 := by kernel_rfl
  i171 := by kernel_rfl
  i173 := by kernel_rfl
  i212 := by kernel_rfl
  i232 := by kernel_rfl
  i233 := by kernel_rfl
  m17 := by kernel_rfl
  m18 := by kernel_rfl
  m19 := by kernel_rfl }
end Go.Proofs
namespace Go.Sep
open Go Go.Proofs
open Enc (V)
theorem KP.tab {w : World} {T : Nat → Prop} (h : KP Tryz.prog w T) : Lib.TabIs Tryz.prog w "internal/strconv.uint64pow10" .u64 Lib.pow10Tab := by
  have hg : (Tryz.prog.globals[3]?).map (·.name) = some "internal/strconv.uint64pow10" := by kernel_rfl
  cases hG : Tryz.prog.globals[3]? with
  | none => rw [hG] at hg; cases hg
  | some G =>
    rw [hG] at hg
    have hn : G.name = "internal/strconv.uint64pow10" := by simpa using hg
    obtain ⟨_, _, el, fr, h3⟩ := h _ G _ hG (by rw [hn]; rfl)
    have hgn : Tryz.prog.globalNamed "internal/strconv.uint64pow10" = some 3 := by kernel_rfl
    have e : (pow10s.map fun (n : Nat) => Value.int .u64 (n : Int)).toArray = (Lib.pow10Tab.map fun z => Value.int .u64 z).toArray := by kernel_rfl
    unfold Lib.TabIs World.var?
    rw [hgn]
    simp only [Option.bind_some, h3, e]
theorem Ext.grow (M : List Nat) (w : World) (k : Nat) (os : Array Obj) : Ext M w (Sort.grow (w.drewN k) os) :=
  ⟨rfl, rfl, rfl, by simp [Sort.grow, World.drewN], fun i hi _ => by simp [Sort.grow, World.drewN, Array.getElem?_append_left hi]⟩
theorem fnP_of_calls {P : Program} {f : FuncId} {Xs : List VP} {R : VP} (hc : callable P f = true)
    (h : ∀ (w : World) (T : Nat → Prop) (vs : List Value), KP P w T → Args w T Xs vs → Calls P f vs.toArray w fun ex w' => ∃ v, ex = .returned v ∧ Ext [] w w' ∧ R.rep w' T v) : FnP P f Xs R :=
  ⟨hc, fun w T vs h1 _ _ _ h5 h6 => (h w T vs h5 h6).mono fun ex w' ⟨v, a1, a2, a3⟩ => ⟨(), v, trivial, a1, a2, by simp, by simp, by
    have : TA T [] [] = T := by funext b; simp [TA]
    rw [this]; exact a3, by simp⟩⟩
attribute [local irreducible] Quiet QStep J At FnX Fn FnP Repl Split Has Post Back GoZ
theorem itoa_c (n : Int) (h0 : -9223372036854775808 ≤ n) (h1 : n ≤ 9223372036854775807) : FnP Tryz.prog 108 [VInt .i64 n] (VStr (Lib.itoa n)) :=
  fnP_of_calls (by kernel_rfl) fun w T vs hK ha => by
    match vs, ha with
    | [v], ⟨hv, _⟩ =>
      obtain rfl : v = .int .i64 n := hv
      have := Any.strconv_Itoa Tryz.laysItoa n h0 h1 w hK.tab
      exact this.mono fun ex w' ⟨he, k, os, hw⟩ => ⟨_, he, hw ▸ Ext.grow [] w k os, rfl⟩
def canonB (k : Int) (b : Bs) : Bs := if wordB k = [] then [] else wordB k ++ [32] ++ Lib.itoa b.length ++ [0] ++ b
theorem wordB_len (k : Int) : (wordB k).length ≤ 6 := by
  unfold wordB
  split
  · simp
  · split
    · simp
    · split
      · simp
      · split <;> simp
theorem canon_c (k : Int) (b : Bytes) (hb : b.length ≤ 1048576) : FnP Tryz.prog 77 [VInt .i64 k, Sl b] (Sl (canonB k b)) := by
  have hw := wordB_len k
  have hi : (Lib.itoa b.length).length ≤ 21 := Lib.itoa_length_le _ (by omega) (by omega)
  refine FnP_intro (by kernel_rfl) Tryz.func77 rfl Tryz.ntmps77 rfl (fun e => ?_)
  refine JSR ?_
  refine JQ (Q_assign (At.nils (α := UInt8))) rfl ?_
  refine JNSSR ?_
  refine JM rfl rfl ?_
  refine JQ (Q_call (word_c _) ⟨(.tmp rfl), trivial⟩) rfl ?_
  refine JQ (Q_eqls (.tmp rfl) At.str) rfl ?_
  refine JN ?_
  refine J_cond (.tmp rfl) (fun h0 => ?_) (fun h0 => ?_)
  · try simp only [BS, ne_eq] at h0
    refine JSR ?_
    refine JQ (Q_assign (At.nils (α := UInt8))) rfl ?_
    refine JN ?_
    refine J_retc ?_
    refine J_then_ret ?_
    exact J_ret1 rfl (ResAt.tmp rfl) () trivial Split.nil (imp_eq (vsl_eq (by unfold canonB; rw [if_pos h0])))
  try simp only [BS, ne_eq] at h0
  refine J_skip ?_
  refine J_then_normal ?_
  refine JSR ?_
  refine JM rfl rfl ?_
  refine JQ (Q_call (word_c _) ⟨(.tmp rfl), trivial⟩) rfl ?_
  refine JQ (Q_cat (.tmp rfl) At.str (by simp; omega)) rfl ?_
  refine JM rfl rfl ?_
  refine JQ (Q_len Tryz.underlying23 rfl (.tmp rfl)) rfl ?_
  refine JQ (Q_call (itoa_c _ (by first | omega | simp <;> omega) (by first | omega | simp <;> omega)) ⟨(.tmp rfl), trivial⟩) rfl ?_
  refine JQ (Q_cat (.tmp rfl) (.tmp rfl) (by simp; omega)) rfl ?_
  refine JQ (Q_cat (.tmp rfl) At.str (by simp; omega)) rfl ?_
  refine JQ (Q_toBytes Tryz.underlying9 Tryz.underlying23 Tryz.underlying5 (by simp [maxLen]; omega) (.tmp rfl)) rfl ?_
  refine JM rfl rfl ?_
  refine JQ (Q_buildSlice (α := (List UInt8)) E23 Tryz.underlying219 [.tmp 16, .tmp 17] [_, _] rfl rfl ⟨(.tmp rfl), (.tmp rfl), trivial⟩ (Nat.le_of_ble_eq_true rfl)) rfl ?_
  refine JQ (Q_call (concatB_c _ (by first | omega | simp <;> omega) (by first | omega | simp <;> omega)) ⟨(.tmp rfl), trivial⟩) rfl ?_
  refine JQ (Q_call (clipB_c _) ⟨(.tmp rfl), trivial⟩) rfl ?_
  refine JA rfl rfl ?_
  refine JN ?_
  refine J_retc ?_
  exact J_ret1 rfl (ResAt.tmp rfl) () trivial Split.nil (imp_eq (vsl_eq (by unfold canonB; rw [if_neg h0]; simp)))
theorem objID_c (k : Int) (b : Bytes) (hb : b.length ≤ 1048576) : FnP Tryz.prog 51 [VInt .i64 k, Sl b] (V (sha1 (canonB k b))) := by
  have hw := wordB_len k
  have hi : (Lib.itoa b.length).length ≤ 21 := Lib.itoa_length_le _ (by omega) (by omega)
  have hc : (canonB k b).length ≤ 1048700 := by unfold canonB; split <;> simp <;> omega
  refine FnP_intro (by kernel_rfl) Tryz.func51 rfl Tryz.ntmps51 rfl (fun e => ?_)
  refine JSR ?_
  refine J_alloc Z38 rfl (fun b4 => ?_)
  refine JNSR ?_
  refine JM rfl rfl ?_
  refine JM rfl rfl ?_
  refine JQ (Q_call (canon_c _ _ (by first | omega | simp <;> omega)) ⟨(.tmp rfl), (.tmp rfl), trivial⟩) rfl ?_
  refine JQ (Q_call (shaSum_c _ (by first | omega | simp <;> omega)) ⟨(.tmp rfl), trivial⟩) rfl ?_
  refine J_store (.tmp rfl) (.tmp rfl) (by (try dsimp only) <;> rfl) (by repeat first | exact R1 | apply RT) Lens.id T38.size ?_
  refine JN ?_
  refine J_retc ?_
  exact J_ret1 rfl (ResAt.box rfl (by repeat first | exact R0 | apply RT) T38) () trivial Split.nil imp_refl
end Go.Sep
namespace Go.Sep
open Go Go.Proofs
open Enc (V)
attribute [local irreducible] Quiet QStep J At FnX Fn FnP Repl Split Has Post Back GoZ
theorem isNaNs_c (s : Bytes) : FnP Tryz.prog 176 [VStr s] (VBool false) := by
  refine FnP_intro (by kernel_rfl) Tryz.func176 rfl Tryz.ntmps176 rfl (fun e => ?_)
  refine JSR ?_
  refine JQ (Q_assign At.bool) rfl ?_
  refine JNSR ?_
  refine JM rfl rfl ?_
  refine JM rfl rfl ?_
  refine JQ (Q_neqs (.tmp rfl) (.tmp rfl)) rfl ?_
  refine JA rfl rfl ?_
  refine JN ?_
  refine J_retc ?_
  exact J_ret1 rfl (ResAt.tmp rfl) () trivial Split.nil (imp_eq (vbool_eq (by simp)))
def cmpS (s t : Bs) : Int := if Op.bytesLess s t = true then -1 else if (!Op.bytesLess s t && !decide (s = t)) = true then 1 else 0
theorem cmpS_c (s t : Bytes) : FnP Tryz.prog 164 [VStr s, VStr t] (VInt .i64 (cmpS s t)) := by
  refine FnP_intro (by kernel_rfl) Tryz.func164 rfl Tryz.ntmps164 rfl (fun e => ?_)
  refine JSR ?_
  refine JQ (Q_assign At.int) rfl ?_
  refine JNSR ?_
  refine JM rfl rfl ?_
  refine JQ (Q_call (isNaNs_c _) ⟨(.tmp rfl), trivial⟩) rfl ?_
  refine JA rfl rfl ?_
  refine JNSR ?_
  refine JM rfl rfl ?_
  refine JQ (Q_call (isNaNs_c _) ⟨(.tmp rfl), trivial⟩) rfl ?_
  refine JA rfl rfl ?_
  refine JNSSR ?_
  refine JM rfl rfl ?_
  refine JN ?_
  refine J_cond (.tmp rfl) (fun h0 => ?_) (fun h0 => ?_)
  · try simp only [BS, ne_eq] at h0
    cases h0
  try simp only [BS, ne_eq] at h0
  refine J_skip ?_
  refine J_then_normal ?_
  refine J_seq ?_
  refine JSR ?_
  refine JM rfl rfl ?_
  refine JN ?_
  refine J_cond (.tmp rfl) (fun h2 => ?_) (fun h2 => ?_)
  · try simp only [BS, ne_eq] at h2
    cases h2
  try simp only [BS, ne_eq] at h2
  refine J_skip ?_
  refine J_then_normal ?_
  refine J_seq ?_
  refine JSR ?_
  refine JM rfl rfl ?_
  refine JM rfl rfl ?_
  refine JQ (Q_lsss (.tmp rfl) (.tmp rfl)) rfl ?_
  refine JN ?_
  refine J_cond (.tmp rfl) (fun h3 => ?_) (fun h3 => ?_)
  · try simp only [BS, ne_eq] at h3
    refine JSR ?_
    refine JQ (Q_assign At.int) rfl ?_
    refine JN ?_
    refine J_retc ?_
    refine J_then_ret ?_
    exact J_ret1 rfl (ResAt.tmp rfl) () trivial Split.nil (imp_eq (vint_eq (by simp_all [cmpS])))
  try simp only [BS, ne_eq] at h3
  refine J_skip ?_
  refine J_then_normal ?_
  refine J_seq ?_
  refine JSR ?_
  refine JM rfl rfl ?_
  refine JM rfl rfl ?_
  refine JQ (Q_gtrs (.tmp rfl) (.tmp rfl)) rfl ?_
  refine JN ?_
  refine J_cond (.tmp rfl) (fun h4 => ?_) (fun h4 => ?_)
  · try simp only [BS, ne_eq] at h4
    refine JSR ?_
    refine JQ (Q_assign At.int) rfl ?_
    refine JN ?_
    refine J_retc ?_
    refine J_then_ret ?_
    exact J_ret1 rfl (ResAt.tmp rfl) () trivial Split.nil (imp_eq (vint_eq (by simp_all [cmpS])))
  try simp only [BS, ne_eq] at h4
  refine J_skip ?_
  refine J_then_normal ?_
  refine JSR ?_
  refine JQ (Q_assign At.int) rfl ?_
  refine JN ?_
  refine J_retc ?_
  exact J_ret1 rfl (ResAt.tmp rfl) () trivial Split.nil (imp_eq (vint_eq (by simp_all [cmpS])))
abbrev Ent := Int × Str × Oid
def keyE (e : Ent) : Bs := if e.1 = 16384 then e.2.1.l ++ [47] else e.2.1.l
theorem keyE_c (e : Ent) (h : e.2.1.l.length ≤ 1048576) : FnP Tryz.prog 163 [V e] (VStr (keyE e)) := by
  refine FnP_intro (by kernel_rfl) Tryz.func163 rfl Tryz.ntmps163 rfl (fun e => ?_)
  refine JSR ?_
  refine J_boxI (α := (Int × Str × (Arr 20 UInt8))) (.tmp rfl) rfl ?_
  refine JQ (Q_assign At.str) rfl ?_
  refine JNSSR ?_
  refine JQ (Q_fieldAddrI F180_0 (by decide) (Lens.fst Lens.id) (.tmp rfl)) rfl ?_
  refine JQ (Q_load (.tmp rfl) T3) rfl ?_
  refine JQ (Q_eql (.tmp rfl) At.int) rfl ?_
  refine JN ?_
  refine J_cond (.tmp rfl) (fun h0 => ?_) (fun h0 => ?_)
  · try simp only [BS, ne_eq] at h0
    refine JSR ?_
    refine JQ (Q_fieldAddrI F180_1 (by decide) (Lens.snd (Lens.fst Lens.id) (by first | rfl | (simp only [Enc.size, Nat.zero_add, Nat.mul_one, Nat.add_zero]; omega))) (.tmp rfl)) rfl ?_
    refine JQ (Q_strOf (Q_load (.tmp rfl) T9) (by (try dsimp only) <;> rfl)) rfl ?_
    refine JQ (Q_cat (.tmp rfl) At.str (Nat.le_trans (Nat.add_le_add_right h 1) (by decide))) rfl ?_
    refine JA rfl rfl ?_
    refine JN ?_
    refine J_retc ?_
    refine J_then_ret ?_
    exact J_ret1 rfl (ResAt.tmp rfl) () trivial Split.nil (imp_eq (by simp_all [keyE]))
  try simp only [BS, ne_eq] at h0
  refine J_skip ?_
  refine J_then_normal ?_
  refine JSR ?_
  refine JQ (Q_fieldAddrI F180_1 (by decide) (Lens.snd (Lens.fst Lens.id) (by first | rfl | (simp only [Enc.size, Nat.zero_add, Nat.mul_one, Nat.add_zero]; omega))) (.tmp rfl)) rfl ?_
  refine JQ (Q_strOf (Q_load (.tmp rfl) T9) (by (try dsimp only) <;> rfl)) rfl ?_
  refine JA rfl rfl ?_
  refine JN ?_
  refine J_retc ?_
  exact J_ret1 rfl (ResAt.tmp rfl) () trivial Split.nil (imp_eq (by simp_all [keyE]))
theorem order_c (a b : Ent) (ha : a.2.1.l.length ≤ 1048576) (hb : b.2.1.l.length ≤ 1048576) : FnP Tryz.prog 137 [V a, V b] (VInt .i64 (cmpS (keyE a) (keyE b))) := by
  refine FnP_intro (by kernel_rfl) Tryz.func137 rfl Tryz.ntmps137 rfl (fun e => ?_)
  refine JSR ?_
  refine J_boxI (α := (Int × Str × (Arr 20 UInt8))) (.tmp rfl) rfl ?_
  refine J_boxI (α := (Int × Str × (Arr 20 UInt8))) (.tmp rfl) rfl ?_
  refine JQ (Q_assign At.int) rfl ?_
  refine JNSR ?_
  refine JQ (Q_assign At.func) rfl ?_
  refine JN ?_
  refine J_seq ?_
  refine J_draw mix 8 [6, 7, 8, 9, 10, 11, 12, 4] [_, _, _, _, _, _, _, _] rfl rfl (by kernel_rfl) (by kernel_rfl) (by kernel_rfl) (by kernel_rfl) (by kernel_rfl) ⟨QS (Q_move (.tmp rfl)) rfl, QS (Q_load (.tmp rfl) T180) rfl, QS (Q_callV (keyE_c _ (by first | omega | simp <;> omega)) (.tmp rfl) ⟨(.tmp rfl), trivial⟩) rfl, QS (Q_move (.tmp rfl)) rfl, QS (Q_load (.tmp rfl) T180) rfl, QS (Q_callV (keyE_c _ (by first | omega | simp <;> omega)) (.tmp rfl) ⟨(.tmp rfl), trivial⟩) rfl, QS (Q_call (cmpS_c _ _) ⟨(.tmp rfl), (.tmp rfl), trivial⟩) rfl, QS (Q_assign (.tmp rfl)) rfl, trivial⟩ ?_
  refine JN ?_
  refine J_retc ?_
  exact J_ret1 rfl (ResAt.tmp rfl) () trivial Split.nil imp_refl
def modeB (m : Int) : Bs := if m = 16384 then [52, 48, 48, 48, 48] else if m = 33188 then [49, 48, 48, 54, 52, 52] else if m = 33261 then [49, 48, 48, 55, 53, 53] else if m = 40960 then [49, 50, 48, 48, 48, 48] else if m = 57344 then [49, 54, 48, 48, 48, 48] else []
def modes : List Int := [16384, 33188, 33261, 40960, 57344]
def modeOfB (s : Bs) : Int × Bool := if s = modeB 16384 then (16384, true) else if s = modeB 33188 then (33188, true) else if s = modeB 33261 then (33261, true) else if s = modeB 40960 then (40960, true) else if s = modeB 57344 then (57344, true) else (0, false)
theorem modeOfB_some {s : Bs} {k : Nat} (hk : k < 5) (h : modeB (modes[k]'hk) = s) : modeOfB s = (modes[k]'hk, true) := by
  subst h
  match k, hk with
  | 0, _ => rfl
  | 1, _ => rfl
  | 2, _ => rfl
  | 3, _ => rfl
  | 4, _ => rfl
theorem modeOfB_none {s : Bs} (h : ∀ k (hk : k < 5), modeB (modes[k]'hk) ≠ s) : modeOfB s = (0, false) := by
  have h0 := h 0 (by omega); have h1 := h 1 (by omega); have h2 := h 2 (by omega); have h3 := h 3 (by omega); have h4 := h 4 (by omega)
  unfold modeOfB
  rw [if_neg (fun e => h0 e.symm), if_neg (fun e => h1 e.symm), if_neg (fun e => h2 e.symm), if_neg (fun e => h3 e.symm), if_neg (fun e => h4 e.symm)]
end Go.Sep
namespace Go.Sep
open Go Go.Proofs
open Enc (V)
section
variable {P : Program} {n : Nat} {e : Env P} {G : Ctx} {S : List Res} {d : Option Tmp} {t : TypeId} {x y : Operand} {ty : TypeId} {pos : String} {af : Array Edge} {g : Option (Nat × Bool)}
theorem KP.reads {w : World} {T : Nat → Prop} (h : KP P w T) {gl : Nat} {Gl : Global} {l : List Value} (hG : P.globals[gl]? = some Gl) (hl : tableOf Gl.name = some l) : ¬ T gl ∧ gl < w.heap.size ∧ Reads w gl 0 l := by
  obtain ⟨h1, h2, el, fr, h3⟩ := h gl Gl l hG hl
  exact ⟨h1, h2, reads_box h3⟩
theorem Q_idxAddrTab {gl m el : Nat} {k : IntKind} {i : Nat} {tab : List UInt8} (nm : String) (hn : (P.globals[gl]?).map (·.name) = some nm) (htab : tableOf nm = some (tab.map u8v)) (ht : P.underlying t = some (.array m el)) (hs : (P.info? el).map (·.size) = some 1)
    (hy : At G y (VInt k (i : Nat))) (hi : i < tab.length) (hm : i < m) :
    Quiet P n e G S ⟨d, .indexAddr t (.global gl) y, ty, pos, af, g⟩ (PtrTo (tab[i]'hi)) :=
  Q_of_run fun a w hh => by
    cases hG : P.globals[gl]? with
    | none => rw [hG] at hn; cases hn
    | some Gl =>
      rw [hG] at hn
      have hn' : Gl.name = nm := by simpa using hn
      obtain ⟨h1, h2, h3⟩ := hh.glob.reads hG (by rw [hn']; exact htab)
      have hy' : a.eval y = .int k (i : Nat) := hy.rep hh
      have hx : a.eval (.global gl) = .pointer (some ⟨gl, 0, none⟩) := rfl
      refine ⟨.pointer (some ⟨gl, 0 + i * 1, none⟩), w, ?_, Ext.refl _ _, ⟨gl, 0 + i * 1, [u8v (tab[i]'hi)], rfl, h1, h2, rfl, ?_⟩⟩
      · have hlt : (0 : Int) ≤ (i : Int) ∧ (i : Int) < (m : Int) := by omega
        simp [execOp, hx, hy', Instr.indexAt, Instr.sureAddr, asIntOf, run_underlying ht, run_sizeOf hs, addr_add, hm]
      · intro j u hj
        match j with
        | 0 =>
          simp at hj; subst hj
          have := h3 i (u8v (tab[i]'hi)) (by simp [hi])
          simpa using this
        | j + 1 => simp at hj
theorem Q_neg64 {u : UInt64} (hx : At G x (VInt .u64 (u.toNat : Nat))) : Quiet P n e G S ⟨d, .unOp .neg t x, ty, pos, af, g⟩ (VInt .u64 (((0 - u : UInt64).toNat : Nat) : Int)) := by
  have := Q_neg (P := P) (n := n) (e := e) (S := S) (d := d) (t := t) (ty := ty) (pos := pos) (af := af) (g := g) hx
  have e1 := k64_sub 0 u
  have e2 : (((0 : UInt64).toNat : Nat) : Int) = 0 := rfl
  rw [e2] at e1
  rwa [e1] at this
end
attribute [local irreducible] Quiet QStep J At FnX Fn FnP Repl Split Has Post Back GoZ
def deB64 : List UInt8 := deBruijn64s.map UInt8.ofNat
theorem tz8_c : FnP Tryz.prog 187 [VInt .u64 (((8 : UInt64).toNat : Nat) : Int)] (VInt .i64 3) := by
  refine FnP_intro (by kernel_rfl) Tryz.func187 rfl Tryz.ntmps187 rfl (fun e => ?_)
  refine JSR ?_
  refine JQ (Q_assign At.int) rfl ?_
  refine JNSSR ?_
  refine JM rfl rfl ?_
  refine JQ (Q_eql64 (.tmp rfl) (At.k64 (z := 0) (by decide))) rfl ?_
  refine JN ?_
  refine J_cond (.tmp rfl) (fun h0 => ?_) (fun h0 => ?_)
  · try simp only [BS, ne_eq] at h0
    exact absurd h0 (by decide)
  try simp only [BS, ne_eq] at h0
  refine J_skip ?_
  refine J_then_normal ?_
  refine JSR ?_
  refine JM rfl rfl ?_
  refine JM rfl rfl ?_
  refine JQ (Q_neg64 (.tmp rfl)) rfl ?_
  refine JQ (Q_and64 (.tmp rfl) (.tmp rfl)) rfl ?_
  refine JQ (Q_mul64 (.tmp rfl) (At.k64 (z := 285870213051353865) (by decide))) rfl ?_
  refine JQ (Q_shr64 (c := 58) (.tmp rfl) At.int (by first | omega | simp <;> omega)) rfl ?_
  refine JQ (Q_idxAddrTab (k := .u64) (i := 7) (tab := deB64) "math/bits.deBruijn64tab" (by kernel_rfl) (by kernel_rfl) Tryz.underlying214 T5.size (At.eq (.tmp rfl) (vint_eq (by decide))) (by decide) (by decide)) rfl ?_
  refine JQ (Q_load (.tmp rfl) T5) rfl ?_
  refine JQ (Q_conv8to64 (.tmp rfl) (by kernel_rfl) Tryz.underlying3) rfl ?_
  refine JA rfl rfl ?_
  refine JN ?_
  refine J_retc ?_
  exact J_ret1 rfl (ResAt.tmp rfl) () trivial Split.nil (imp_eq (vint_eq (by decide)))
theorem tz_c : FnP Tryz.prog 185 [VInt .u64 (((toU64 8).toNat : Nat) : Int)] (VInt .i64 3) := by
  rw [show toU64 8 = 8 from by decide]
  refine FnP_intro (by kernel_rfl) Tryz.func185 rfl Tryz.ntmps185 rfl (fun e => ?_)
  refine JSR ?_
  refine JQ (Q_assign At.int) rfl ?_
  refine JN ?_
  refine J_seq ?_
  refine J_cond At.bool (fun h0 => ?_) (fun h0 => ?_)
  · try simp only [BS, ne_eq] at h0
    cases h0
  try simp only [BS, ne_eq] at h0
  refine J_skip ?_
  refine J_then_normal ?_
  refine JSR ?_
  refine JM rfl rfl ?_
  refine JQ (Q_call (tz8_c) ⟨(.tmp rfl), trivial⟩) rfl ?_
  refine JA rfl rfl ?_
  refine JN ?_
  refine J_retc ?_
  exact J_ret1 rfl (ResAt.tmp rfl) () trivial Split.nil imp_refl
theorem pow2_c : FnP Tryz.prog 184 [VInt .i64 8] (VBool true) := by
  refine FnP_intro (by kernel_rfl) Tryz.func184 rfl Tryz.ntmps184 rfl (fun e => ?_)
  refine JSR ?_
  refine JQ (Q_assign At.bool) rfl ?_
  refine JNSR ?_
  refine JM rfl rfl ?_
  refine JM rfl rfl ?_
  refine JQ (Q_subi (.tmp rfl) At.int (by first | omega | simp <;> omega) (by first | omega | simp <;> omega)) rfl ?_
  refine JQ (Q_and (.tmp rfl) (.tmp rfl)) rfl ?_
  refine JQ (Q_eql (.tmp rfl) At.int) rfl ?_
  refine JA rfl rfl ?_
  refine JN ?_
  refine J_retc ?_
  exact J_ret1 rfl (ResAt.tmp rfl) () trivial Split.nil (imp_eq (vbool_eq (by decide)))
def digs : Bs := [48, 49, 50, 51, 52, 53, 54, 55, 56, 57, 97, 98, 99, 100, 101, 102, 103, 104, 105, 106, 107, 108, 109, 110, 111, 112, 113, 114, 115, 116, 117, 118, 119, 120, 121, 122]
def octN (u : UInt64) : Nat → UInt64 × Arr 65 UInt8
  | 0 => (u, GoZero.z)
  | k + 1 => (shr64 (octN u k).1 3, (octN u k).2.set (64 - k) (digs.getD ((octN u k).1 &&& 7).toNat 0))
theorem getD_get (l : Bs) (i : Nat) (h : i < l.length) : l[i] = l.getD i 0 := by simp [List.getD_eq_getElem?_getD, h]
theorem octN_0 (u : UInt64) : octN u 0 = (u, GoZero.z) := rfl
theorem octN_s (u : UInt64) (k : Nat) : octN u (k + 1) = (shr64 (octN u k).1 3, (octN u k).2.set (64 - k) (digs.getD ((octN u k).1 &&& 7).toNat 0)) := rfl
def octS (u : UInt64) (k : Nat) : Bs := ((octN u k).2.set (64 - k) (digs.getD (octN u k).1.toNat 0)).l.drop (64 - k)
theorem oct_step {k v : Nat} (hk : k ≤ 5) (hv : v < 8 ^ (6 - k)) (h8 : 8 ≤ v) : k ≤ 4 ∧ v / 8 < 8 ^ (6 - (k + 1)) := by
  have h5 : k ≠ 5 := by rintro rfl; simp at hv; omega
  have e : 8 ^ (6 - k) = 8 ^ (6 - (k + 1)) * 8 := by rw [show 6 - k = (6 - (k + 1)) + 1 by omega, Nat.pow_succ]
  rw [e] at hv
  exact ⟨by omega, by omega⟩
theorem oct_modes : ∀ m ∈ modes, ∃ k0, (octN (toU64 m) k0).1.toNat < 8 ∧ (∀ j, j < k0 → 8 ≤ (octN (toU64 m) j).1.toNat) ∧ octS (toU64 m) k0 = modeB m := by
  intro m hm
  simp only [modes, List.mem_cons, List.not_mem_nil, or_false] at hm
  rcases hm with rfl | rfl | rfl | rfl | rfl
  · exact ⟨4, by decide, by decide, by decide⟩
  · exact ⟨5, by decide, by decide, by decide⟩
  · exact ⟨5, by decide, by decide, by decide⟩
  · exact ⟨5, by decide, by decide, by decide⟩
  · exact ⟨5, by decide, by decide, by decide⟩
attribute [local irreducible] octN
theorem fmtBits_c (u : UInt64) (k0 : Nat) (hu : u.toNat < 8 ^ 6) (hA : (octN u k0).1.toNat < 8) (hB : ∀ j, j < k0 → 8 ≤ (octN u j).1.toNat) :
    FnP Tryz.prog 180 [Is (.slice none 0 0), VInt .u64 (u.toNat : Nat), VInt .i64 8, VBool false, VBool false] (VTup [Is (.slice none 0 0), VStr (octS u k0)]) := by
  have h88 : ((toU64 8).toNat : Nat) = 8 := by decide
  have h33 : ((toU64 3).toNat : Nat) = 3 := by decide
  have h77 : toU64 8 - UInt64.ofNat 1 = 7 := by decide
  have h00 := octN_0 u
  refine FnP_intro (by kernel_rfl) Tryz.func180 rfl Tryz.ntmps180 rfl (fun e => ?_)
  refine JSR ?_
  refine JQ (Q_assign At.const) rfl ?_
  refine JQ (Q_assign At.str) rfl ?_
  refine JNSSR ?_
  refine JM rfl rfl ?_
  refine JQ (Q_lss (.tmp rfl) At.int) rfl ?_
  refine JM rfl rfl ?_
  refine J_qstep (QG rfl rfl rfl rfl rfl opt_bool (fun hg => Q_move (.tmp rfl))) rfl rfl ?_
  refine J_qstep (QG rfl rfl rfl rfl rfl opt_bool (fun hg => (by have hg0 := hg; simp only [BS, ne_eq] at hg0; exact Q_eql (At.opt rfl (by first | exact hg | (simp only [BS, ne_eq] at hg ⊢; first | exact hg | simp_all))) At.int))) rfl rfl ?_
  refine JQ (Q_orB (.tmp rfl) (fun hb => At.opt rfl (by simp only [BS, ne_eq] at hb ⊢; first | exact hb | simp_all))) rfl ?_
  refine JM rfl rfl ?_
  refine J_qstep (QG rfl rfl rfl rfl rfl opt_bool (fun hg => Q_move (.tmp rfl))) rfl rfl ?_
  refine J_qstep (QG rfl rfl rfl rfl rfl opt_bool (fun hg => (by have hg0 := hg; simp only [BS, ne_eq] at hg0; exact Q_gtr (At.opt rfl (by first | exact hg | (simp only [BS, ne_eq] at hg ⊢; first | exact hg | simp_all))) At.int))) rfl rfl ?_
  refine JQ (Q_orB (.tmp rfl) (fun hb => At.opt rfl (by simp only [BS, ne_eq] at hb ⊢; first | exact hb | simp_all))) rfl ?_
  refine JN ?_
  refine J_cond (.tmp rfl) (fun h0 => ?_) (fun h0 => ?_)
  · try simp only [BS, ne_eq] at h0
    exact absurd h0 (by decide)
  try simp only [BS, ne_eq] at h0
  refine J_skip ?_
  refine J_then_normal ?_
  refine JSR ?_
  refine J_alloc Z259 rfl (fun b12 => ?_)
  refine JNSR ?_
  refine JQ (Q_assign At.int) rfl ?_
  refine JNSSR ?_
  refine JM rfl rfl ?_
  refine JN ?_
  refine J_cond (.tmp rfl) (fun h1 => ?_) (fun h1 => ?_)
  · try simp only [BS, ne_eq] at h1
    cases h1
  try simp only [BS, ne_eq] at h1
  refine J_skip ?_
  refine J_then_normal ?_
  refine J_seq ?_
  refine JSR ?_
  refine JM rfl rfl ?_
  refine JQ (Q_call (pow2_c) ⟨(.tmp rfl), trivial⟩) rfl ?_
  refine JN ?_
  refine J_cond (.tmp rfl) (fun h2 => ?_) (fun h2 => ?_)
  · try simp only [BS, ne_eq] at h2
    refine JSR ?_
    refine JM rfl rfl ?_
    refine JQ (Q_to64 (.tmp rfl) (by kernel_rfl) Tryz.underlying163) rfl ?_
    refine JQ (Q_call (tz_c) ⟨(.tmp rfl), trivial⟩) rfl ?_
    refine JQ (Q_to64 (.tmp rfl) (by kernel_rfl) Tryz.underlying163) rfl ?_
    refine JA rfl rfl ?_
    refine JNSR ?_
    refine JM rfl rfl ?_
    refine JQ (Q_to64 (.tmp rfl) (by kernel_rfl) Tryz.underlying190) rfl ?_
    refine JA rfl rfl ?_
    refine JNSR ?_
    refine JM rfl rfl ?_
    refine JQ (Q_to64 (.tmp rfl) (by kernel_rfl) Tryz.underlying163) rfl ?_
    refine JQ (Q_sub64 (.tmp rfl) (At.k64 (z := 1) (by decide))) rfl ?_
    refine JA rfl rfl ?_
    refine JN ?_
    refine J_seq ?_
    refine J_block ?_
    refine J_loopU (ι := Nat) (fun k => k ≤ 5 ∧ (octN u k).1.toNat < 8 ^ (6 - k) ∧ ∀ j, j < k → 8 ≤ (octN u j).1.toNat) (fun k => [(13, VInt .i64 (65 - (k : Nat))), (1, VInt .u64 ((octN u k).1.toNat : Nat))]) [(0, _), (3, _), (4, _), (10, _), (11, _), (12, _), (14, _), (15, _), (16, _)] (fun k => [BoxR 259 b12 (octN u k).2]) (fun k => (octN u k).1.toNat) (0) ⟨by omega, by rw [h00]; exact hu, by intros; omega⟩ ⟨fe rfl (by first | rfl | exact vint_eq (by first | omega | simp <;> omega) | exact vsl_eq (by simp) | exact vstr_eq (by simp)), fe rfl (by rw [h00]), trivial⟩ ⟨rfl, rfl, rfl, rfl, rfl, rfl, rfl, rfl, rfl, trivial⟩ (Has.take (Repl.box (by repeat first | exact R0 | apply RT) (by rw [h00])) Has.nil) (fun k hq => ?_)
    obtain ⟨hk, hv, hall⟩ := hq
    refine J_seq ?_
    refine JSR ?_
    refine JM rfl rfl ?_
    refine JM rfl rfl ?_
    refine JQ (Q_geq (.tmp rfl) (.tmp rfl)) rfl ?_
    refine JN ?_
    refine J_cond (.tmp rfl) (fun h3 => ?_) (fun h3 => ?_)
    · try simp only [BS, ne_eq] at h3
      refine J_skip ?_
      refine J_then_normal ?_
      refine J_block ?_
      refine JSR ?_
      refine JM rfl rfl ?_
      refine JQ (Q_subi (.tmp rfl) At.int (by first | omega | simp <;> omega) (by first | omega | simp <;> omega)) rfl ?_
      refine JA rfl rfl ?_
      refine JNSR ?_
      refine JM rfl rfl ?_
      refine JM rfl rfl ?_
      refine JM rfl rfl ?_
      refine JQ (Q_and64 (.tmp rfl) (.tmp rfl)) rfl ?_
      have h36 : ((octN u k).1 &&& (toU64 8 - UInt64.ofNat 1)).toNat ≤ 7 := by rw [h77, UInt64.toNat_and]; exact Nat.and_le_right
      have h37 : ((octN u k).1.toNat &&& (toU64 8 - 1).toNat) ≤ 7 := by rw [show toU64 8 - 1 = 7 from by decide]; exact Nat.and_le_right
      refine JQ (by first | exact Q_idxsN Tryz.underlying9 At.str (.tmp rfl) (by first | omega | simp <;> omega) | exact Q_idxs Tryz.underlying9 At.str (.tmp rfl) (by first | omega | simp <;> omega) (by first | omega | simp <;> omega)) rfl ?_
      refine JQ (Q_idxAddrP Tryz.underlying259 T5.size (.tmp rfl) (.tmp rfl) (by first | omega | simp <;> omega) (by first | omega | simp <;> omega)) rfl ?_
      refine J_store (.tmp rfl) (.tmp rfl) (by (try dsimp only) <;> rfl) (by repeat first | exact R1 | apply RT) (Lens.idxO (_) (by first | (simp only [Nat.zero_add]; rfl) | rfl) (by first | omega | simp <;> omega)) T5.size ?_
      refine JNR ?_
      refine JM rfl rfl ?_
      refine JM rfl rfl ?_
      refine JQ (Q_shr64 (.tmp rfl) (.tmp rfl) (by first | omega | simp <;> omega)) rfl ?_
      refine JA rfl rfl ?_
      refine J_nil ?_
      refine J_blk_normal ?_
      refine J_then_normal ?_
      have hs := oct_step hk hv (by first | omega | simp <;> omega)
      have hz : (octN u (k + 1)).1.toNat = (octN u k).1.toNat / 8 := by rw [octN_s]; exact shr64_toNat _ 3
      refine J_back (k + 1) ?_ ?_ ?_ ?_
      · exact ⟨⟨by omega, by rw [hz]; exact hs.2, fun j hj => by by_cases e : j = k; (subst e; omega); exact hall j (by first | omega | simp <;> omega)⟩, by rw [hz]; omega⟩
      · exact ⟨fe rfl (by exact vint_eq (by first | omega | simp <;> omega)), fe rfl (by rw [octN_s, h33]), trivial⟩
      · exact ⟨rfl, rfl, rfl, rfl, rfl, rfl, rfl, rfl, rfl, trivial⟩
      · exact (Has.take (Repl.box (by repeat first | exact R0 | apply RT) (by rw [octN_s, show ((65 : Int) - (k : Nat) - 1).toNat = 64 - k by omega]; show _ = (octN u k).2.set (64 - k) (digs.getD ((octN u k).1 &&& 7).toNat 0); rw [← h77]; exact congrArg _ (getD_get digs _ _))) Has.nil)
    try simp only [BS, ne_eq] at h3
    refine J_exit ?_
    refine J_then_exit ?_
    refine J_then_exit ?_
    refine J_blk_out ?_
    refine J_then_normal ?_
    refine JSR ?_
    refine JM rfl rfl ?_
    refine JQ (Q_subi (.tmp rfl) At.int (by first | omega | simp <;> omega) (by first | omega | simp <;> omega)) rfl ?_
    refine JA rfl rfl ?_
    refine JNR ?_
    refine JM rfl rfl ?_
    refine JM rfl rfl ?_
    refine JQ (by first | exact Q_idxsN Tryz.underlying9 At.str (.tmp rfl) (by first | omega | simp <;> omega) | exact Q_idxs Tryz.underlying9 At.str (.tmp rfl) (by first | omega | simp <;> omega) (by first | omega | simp <;> omega)) rfl ?_
    refine JQ (Q_idxAddrP Tryz.underlying259 T5.size (.tmp rfl) (.tmp rfl) (by first | omega | simp <;> omega) (by first | omega | simp <;> omega)) rfl ?_
    refine J_store (.tmp rfl) (.tmp rfl) (by (try dsimp only) <;> rfl) (by repeat first | exact R1 | apply RT) (Lens.idxO (_) (by first | (simp only [Nat.zero_add]; rfl) | rfl) (by first | omega | simp <;> omega)) T5.size ?_
    refine JNSSR ?_
    refine JM rfl rfl ?_
    refine JN ?_
    refine J_cond (.tmp rfl) (fun h5 => ?_) (fun h5 => ?_)
    · try simp only [BS, ne_eq] at h5
      cases h5
    try simp only [BS, ne_eq] at h5
    refine J_skip ?_
    refine J_then_normal ?_
    refine J_seq ?_
    refine JSR ?_
    refine JM rfl rfl ?_
    refine JN ?_
    refine J_cond (.tmp rfl) (fun h6 => ?_) (fun h6 => ?_)
    · try simp only [BS, ne_eq] at h6
      cases h6
    try simp only [BS, ne_eq] at h6
    refine J_skip ?_
    refine J_then_normal ?_
    refine JSR ?_
    refine JM rfl rfl ?_
    refine J_freezeB (sl := 12) (by repeat first | exact R0 | apply RT) rfl ?_
    refine JQ (Q_sliceA Tryz.underlying259 T5.size (by decide) (.tmp rfl) ⟨_, (.tmp rfl)⟩ rfl (by first | omega | simp <;> omega) (by first | omega | simp <;> omega) (by first | omega | simp <;> omega)) rfl ?_
    refine JQ (Q_toStr Tryz.underlying23 Tryz.underlying5 Tryz.underlying9 (.tmp rfl)) rfl ?_
    refine JA rfl rfl ?_
    refine JN ?_
    refine J_retc ?_
    have hkk : k = k0 := by rcases Nat.lt_trichotomy k k0 with h | h | h; (have := hB k h; omega); exact h; (have := hall k0 h; omega)
    subst hkk
    have hlt : (octN u k).1.toNat < digs.length := by simp [digs]; omega
    have hd : digs.getD (octN u k).1.toNat 0 = digs[(octN u k).1.toNat] := by simp [List.getD_eq_getElem?_getD, hlt]
    exact J_ret2 rfl (ResAt.tmp rfl) (ResAt.tmp rfl) () trivial Split.nil (imp_eq (by rw [show ((65 : Int) - (k : Nat) - 1).toNat = 64 - k by omega]; unfold octS; rw [hd]; exact congrArg (fun q => VTup [Is (.slice none 0 0), VStr (List.drop (64 - k) q)]) (List.take_of_length_le (by rw [Arr.h]; simp))))
  try simp only [BS, ne_eq] at h2
  cases h2
theorem fmtI8_c (m : Int) (k0 : Nat) (hm : 0 ≤ m) (hm2 : m < 262144) (hA : (octN (toU64 m) k0).1.toNat < 8) (hB : ∀ j, j < k0 → 8 ≤ (octN (toU64 m) j).1.toNat) :
    FnP Tryz.prog 168 [VInt .i64 m, VInt .i64 8] (VStr (octS (toU64 m) k0)) := by
  have hu : (toU64 m).toNat < 8 ^ 6 := by have := toU64_toNat m; omega
  refine FnP_intro (by kernel_rfl) Tryz.func168 rfl Tryz.ntmps168 rfl (fun e => ?_)
  refine JSR ?_
  refine JQ (Q_assign At.str) rfl ?_
  refine JNSSR ?_
  refine JM rfl rfl ?_
  refine JQ (Q_eql (.tmp rfl) At.int) rfl ?_
  refine JN ?_
  refine J_cond (.tmp rfl) (fun h0 => ?_) (fun h0 => ?_)
  · try simp only [BS, ne_eq] at h0
    exact absurd h0 (by decide)
  try simp only [BS, ne_eq] at h0
  refine J_skip ?_
  refine J_then_normal ?_
  refine JSR ?_
  refine JM rfl rfl ?_
  refine JQ (Q_to64 (.tmp rfl) (by kernel_rfl) Tryz.underlying190) rfl ?_
  refine JM rfl rfl ?_
  refine JM rfl rfl ?_
  refine JQ (Q_lss (.tmp rfl) At.int) rfl ?_
  refine J_turn (t := 49) (VBool false) rfl (imp_eq (vbool_eq (by simp; omega))) ?_
  refine JQ (Q_call (fmtBits_c (toU64 m) k0 hu hA hB) ⟨At.const, (.tmp rfl), (.tmp rfl), (.tmp rfl), At.bool, trivial⟩) rfl ?_
  refine JM rfl rfl ?_
  refine JQ (Q_extract (.tmp rfl) rfl) rfl ?_
  refine JQ (Q_extract (.tmp rfl) rfl) rfl ?_
  refine JA rfl rfl ?_
  refine JA rfl rfl ?_
  refine JNSR ?_
  refine JM rfl rfl ?_
  refine JA rfl rfl ?_
  refine JN ?_
  refine J_retc ?_
  exact J_ret1 rfl (ResAt.tmp rfl) () trivial Split.nil imp_refl
theorem fmtS8_c (m : Int) (hm : m ∈ modes) : FnP Tryz.prog 162 [VInt .i64 m, VInt .i64 8] (VStr (modeB m)) := by
  obtain ⟨k0, hA, hB, hC⟩ := oct_modes m hm
  have hr : 0 ≤ m ∧ m < 262144 := by
    simp only [modes, List.mem_cons, List.not_mem_nil, or_false] at hm
    omega
  rw [← hC]
  refine FnP_intro (by kernel_rfl) Tryz.func162 rfl Tryz.ntmps162 rfl (fun e => ?_)
  refine JSR ?_
  refine JQ (Q_assign At.str) rfl ?_
  refine JNSR ?_
  refine JM rfl rfl ?_
  refine JM rfl rfl ?_
  refine JQ (Q_call (fmtI8_c m k0 hr.1 hr.2 hA hB) ⟨(.tmp rfl), (.tmp rfl), trivial⟩) rfl ?_
  refine JA rfl rfl ?_
  refine JN ?_
  refine J_retc ?_
  exact J_ret1 rfl (ResAt.tmp rfl) () trivial Split.nil imp_refl
theorem mode_c (m : Int) : FnP Tryz.prog 136 [VInt .i64 m] (VStr (modeB m)) := by
  refine FnP_intro (by kernel_rfl) Tryz.func136 rfl Tryz.ntmps136 rfl (fun e => ?_)
  refine JSR ?_
  refine JQ (Q_assign At.str) rfl ?_
  refine JNSSR ?_
  refine JM rfl rfl ?_
  refine JN ?_
  refine J_block ?_
  refine J_seq ?_
  refine JSR ?_
  refine JQ (Q_eql (.tmp rfl) At.int) rfl ?_
  refine JA rfl rfl ?_
  refine JN ?_
  refine J_cond (.tmp rfl) (fun h0 => ?_) (fun h0 => ?_)
  · try simp only [BS, ne_eq] at h0
    refine J_skip ?_
    refine J_then_normal ?_
    refine J_cond (.tmp rfl) (fun h4 => ?_) (fun h4 => ?_)
    · try simp only [BS, ne_eq] at h4
      refine JSR ?_
      refine JM rfl rfl ?_
      refine JQ (Q_call (fmtS8_c m (by simp_all [modes])) ⟨(.tmp rfl), At.int, trivial⟩) rfl ?_
      refine JA rfl rfl ?_
      refine JN ?_
      refine J_retc ?_
      refine J_blk_ret ?_
      refine J_then_ret ?_
      exact J_ret1 rfl (ResAt.tmp rfl) () trivial Split.nil (imp_eq (by simp_all [modeB]))
    try simp only [BS, ne_eq] at h4
    refine J_skip ?_
    refine J_blk_normal ?_
    refine J_then_normal ?_
    refine JSR ?_
    refine JQ (Q_assign At.str) rfl ?_
    refine JN ?_
    refine J_retc ?_
    exact J_ret1 rfl (ResAt.tmp rfl) () trivial Split.nil (imp_eq (by simp_all [modeB]))
  try simp only [BS, ne_eq] at h0
  refine JSR ?_
  refine JQ (Q_eql (.tmp rfl) At.int) rfl ?_
  refine JA rfl rfl ?_
  refine JN ?_
  refine J_cond (.tmp rfl) (fun h1 => ?_) (fun h1 => ?_)
  · try simp only [BS, ne_eq] at h1
    refine J_skip ?_
    refine J_then_normal ?_
    refine J_cond (.tmp rfl) (fun h4 => ?_) (fun h4 => ?_)
    · try simp only [BS, ne_eq] at h4
      refine JSR ?_
      refine JM rfl rfl ?_
      refine JQ (Q_call (fmtS8_c m (by simp_all [modes])) ⟨(.tmp rfl), At.int, trivial⟩) rfl ?_
      refine JA rfl rfl ?_
      refine JN ?_
      refine J_retc ?_
      refine J_blk_ret ?_
      refine J_then_ret ?_
      exact J_ret1 rfl (ResAt.tmp rfl) () trivial Split.nil (imp_eq (by simp_all [modeB]))
    try simp only [BS, ne_eq] at h4
    refine J_skip ?_
    refine J_blk_normal ?_
    refine J_then_normal ?_
    refine JSR ?_
    refine JQ (Q_assign At.str) rfl ?_
    refine JN ?_
    refine J_retc ?_
    exact J_ret1 rfl (ResAt.tmp rfl) () trivial Split.nil (imp_eq (by simp_all [modeB]))
  try simp only [BS, ne_eq] at h1
  refine JSR ?_
  refine JQ (Q_eql (.tmp rfl) At.int) rfl ?_
  refine JA rfl rfl ?_
  refine JN ?_
  refine J_cond (.tmp rfl) (fun h2 => ?_) (fun h2 => ?_)
  · try simp only [BS, ne_eq] at h2
    refine J_skip ?_
    refine J_then_normal ?_
    refine J_cond (.tmp rfl) (fun h4 => ?_) (fun h4 => ?_)
    · try simp only [BS, ne_eq] at h4
      refine JSR ?_
      refine JM rfl rfl ?_
      refine JQ (Q_call (fmtS8_c m (by simp_all [modes])) ⟨(.tmp rfl), At.int, trivial⟩) rfl ?_
      refine JA rfl rfl ?_
      refine JN ?_
      refine J_retc ?_
      refine J_blk_ret ?_
      refine J_then_ret ?_
      exact J_ret1 rfl (ResAt.tmp rfl) () trivial Split.nil (imp_eq (by simp_all [modeB]))
    try simp only [BS, ne_eq] at h4
    refine J_skip ?_
    refine J_blk_normal ?_
    refine J_then_normal ?_
    refine JSR ?_
    refine JQ (Q_assign At.str) rfl ?_
    refine JN ?_
    refine J_retc ?_
    exact J_ret1 rfl (ResAt.tmp rfl) () trivial Split.nil (imp_eq (by simp_all [modeB]))
  try simp only [BS, ne_eq] at h2
  refine JSR ?_
  refine JQ (Q_eql (.tmp rfl) At.int) rfl ?_
  refine JA rfl rfl ?_
  refine JN ?_
  refine J_cond (.tmp rfl) (fun h3 => ?_) (fun h3 => ?_)
  · try simp only [BS, ne_eq] at h3
    refine J_skip ?_
    refine J_then_normal ?_
    refine J_cond (.tmp rfl) (fun h4 => ?_) (fun h4 => ?_)
    · try simp only [BS, ne_eq] at h4
      refine JSR ?_
      refine JM rfl rfl ?_
      refine JQ (Q_call (fmtS8_c m (by simp_all [modes])) ⟨(.tmp rfl), At.int, trivial⟩) rfl ?_
      refine JA rfl rfl ?_
      refine JN ?_
      refine J_retc ?_
      refine J_blk_ret ?_
      refine J_then_ret ?_
      exact J_ret1 rfl (ResAt.tmp rfl) () trivial Split.nil (imp_eq (by simp_all [modeB]))
    try simp only [BS, ne_eq] at h4
    refine J_skip ?_
    refine J_blk_normal ?_
    refine J_then_normal ?_
    refine JSR ?_
    refine JQ (Q_assign At.str) rfl ?_
    refine JN ?_
    refine J_retc ?_
    exact J_ret1 rfl (ResAt.tmp rfl) () trivial Split.nil (imp_eq (by simp_all [modeB]))
  try simp only [BS, ne_eq] at h3
  refine J_region ?_
  refine JQ (Q_eql (.tmp rfl) At.int) rfl ?_
  refine JA rfl rfl ?_
  refine JN ?_
  refine J_cond (.tmp rfl) (fun h4 => ?_) (fun h4 => ?_)
  · try simp only [BS, ne_eq] at h4
    refine JSR ?_
    refine JM rfl rfl ?_
    refine JQ (Q_call (fmtS8_c m (by simp_all [modes])) ⟨(.tmp rfl), At.int, trivial⟩) rfl ?_
    refine JA rfl rfl ?_
    refine JN ?_
    refine J_retc ?_
    refine J_blk_ret ?_
    refine J_then_ret ?_
    exact J_ret1 rfl (ResAt.tmp rfl) () trivial Split.nil (imp_eq (by simp_all [modeB]))
  try simp only [BS, ne_eq] at h4
  refine J_skip ?_
  refine J_blk_normal ?_
  refine J_then_normal ?_
  refine JSR ?_
  refine JQ (Q_assign At.str) rfl ?_
  refine JN ?_
  refine J_retc ?_
  exact J_ret1 rfl (ResAt.tmp rfl) () trivial Split.nil (imp_eq (by simp_all [modeB]))
theorem modeOf_c (s : Bytes) : FnP Tryz.prog 98 [VStr s] (VTup [VInt .i64 (modeOfB s).1, VBool (modeOfB s).2]) := by
  refine FnP_intro (by kernel_rfl) Tryz.func98 rfl Tryz.ntmps98 rfl (fun e => ?_)
  refine JSR ?_
  refine JQ (Q_assign At.int) rfl ?_
  refine JQ (Q_assign At.bool) rfl ?_
  refine JNSSR ?_
  refine JQ (Q_buildSlice (α := Int) E3 Tryz.underlying211 [.const (.int .i64 16384), .const (.int .i64 33188), .const (.int .i64 33261), .const (.int .i64 40960), .const (.int .i64 57344)] [_, _, _, _, _] rfl rfl ⟨At.int, At.int, At.int, At.int, At.int, trivial⟩ (Nat.le_of_ble_eq_true rfl)) rfl ?_
  refine JQ (Q_len Tryz.underlying211 rfl (.tmp rfl)) rfl ?_
  refine JQ (Q_move At.int) rfl ?_
  refine JN ?_
  refine J_block ?_
  refine J_loopU (ι := Nat) (fun k => k ≤ 5 ∧ ∀ j (hj : j < 5), j < k → modeB (modes[j]) ≠ s) (fun k => [(8, VInt .i64 (k : Nat))]) [(0, _), (6, _), (7, _)] (fun k => []) (fun k => 5 - k) (0) ⟨by omega, by intros; omega⟩ ⟨fe rfl (by first | rfl | exact vint_eq (by first | omega | simp <;> omega) | exact vsl_eq (by simp) | exact vstr_eq (by simp)), trivial⟩ ⟨rfl, rfl, rfl, trivial⟩ Has.nil (fun k hq => ?_)
  obtain ⟨hk, hn⟩ := hq
  refine JSR ?_
  refine JQ (Q_lss (.tmp rfl) (.tmp rfl)) rfl ?_
  refine JN ?_
  refine J_seq ?_
  refine J_cond (.tmp rfl) (fun h0 => ?_) (fun h0 => ?_)
  · try simp only [BS, ne_eq] at h0
    have hk5 : k < 5 := by have h9 := h0; simp at h9; omega
    refine J_skip ?_
    refine J_then_normal ?_
    refine J_seq ?_
    refine J_block ?_
    refine JSR ?_
    refine JQ (by first | exact Q_idxAddrN Tryz.underlying211 T3.size (.tmp rfl) (.tmp rfl) (by first | omega | simp <;> omega) | exact Q_idxAddr Tryz.underlying211 T3.size (.tmp rfl) (.tmp rfl) (by first | omega | simp <;> omega) (by first | omega | simp <;> omega)) rfl ?_
    refine JQ (Q_load (.tmp rfl) T3) rfl ?_
    refine JA rfl rfl ?_
    refine JNSR ?_
    refine JM rfl rfl ?_
    refine JQ (Q_call (mode_c _) ⟨(.tmp rfl), trivial⟩) rfl ?_
    refine JM rfl rfl ?_
    refine JQ (Q_eqls (.tmp rfl) (.tmp rfl)) rfl ?_
    refine JN ?_
    refine J_cond (.tmp rfl) (fun h1 => ?_) (fun h1 => ?_)
    · try simp only [BS, ne_eq] at h1
      refine JSR ?_
      refine JM rfl rfl ?_
      refine JA rfl rfl ?_
      refine JQ (Q_assign At.bool) rfl ?_
      refine JN ?_
      refine J_retc ?_
      refine J_blk_ret ?_
      refine J_then_ret ?_
      refine J_then_ret ?_
      refine J_blk_ret ?_
      refine J_then_ret ?_
      exact J_ret2 rfl (ResAt.tmp rfl) (ResAt.tmp rfl) () trivial Split.nil (imp_eq (by rw [modeOfB_some (k := k) hk5 h1]; rfl))
    try simp only [BS, ne_eq] at h1
    refine J_skip ?_
    refine J_blk_normal ?_
    refine J_then_normal ?_
    refine J_region ?_
    refine JQ (Q_addi (.tmp rfl) At.int (by first | omega | simp <;> omega) (by first | omega | simp <;> omega)) rfl ?_
    refine JM rfl rfl ?_
    refine JN ?_
    refine J_back (k + 1) ?_ ?_ ?_ ?_
    · exact ⟨⟨by omega, by intro j hj hjk; by_cases e : j = k; (subst e; exact h1); exact hn j hj (by first | omega | simp <;> omega)⟩, by omega⟩
    · exact ⟨fe rfl (by first | rfl | exact vint_eq (by first | omega | simp <;> omega) | exact vsl_eq (by simp) | exact vstr_eq (by simp)), trivial⟩
    · exact ⟨rfl, rfl, rfl, trivial⟩
    · exact Has.nil
  try simp only [BS, ne_eq] at h0
  have hk5 : ¬ k < 5 := by have h9 := h0; simp at h9; omega
  refine J_exit ?_
  refine J_then_exit ?_
  refine J_then_exit ?_
  refine J_blk_out ?_
  refine J_then_normal ?_
  refine JSR ?_
  refine JQ (Q_assign At.int) rfl ?_
  refine JQ (Q_assign At.bool) rfl ?_
  refine JN ?_
  refine J_retc ?_
  exact J_ret2 rfl (ResAt.tmp rfl) (ResAt.tmp rfl) () trivial Split.nil (imp_eq (by rw [modeOfB_none (fun j hj => hn j hj (by first | omega | simp <;> omega))]))
end Go.Sep
namespace Go.Sep
open Go Go.Proofs
open Enc (V)
attribute [local irreducible] Quiet QStep J At FnX Fn FnP Repl Split Has Post Back GoZ
theorem Q_idxAddrZ {P : Program} {n : Nat} {e : Env P} {G : Ctx} {S : List Res} {α : Type} [Enc α] [GoZero α] {d : Option Tmp} {t : TypeId} {x y : Operand} {ty : TypeId} {pos : String} {af : Array Edge} {g : Option (Nat × Bool)} {l : List α} {k : IntKind} {i : Int} {el : TypeId}
    (ht : P.underlying t = some (.slice el)) (hs : (P.info? el).map (·.size) = some (Enc.size α)) (hx : At G x (Sl l)) (hy : At G y (VInt k i)) (h0 : 0 ≤ i) (h1 : i.toNat < l.length) :
    Quiet P n e G S ⟨d, .indexAddr t x y, ty, pos, af, g⟩ (PtrTo (l.getD i.toNat GoZero.z)) := by
  have e1 : l.getD i.toNat GoZero.z = l[i.toNat] := by simp [List.getD_eq_getElem?_getD, h1]
  rw [e1]
  exact Q_idxAddr ht hs hx hy h0 h1
theorem mget_mset {κ β : Type} [DecidableEq κ] (m : List (κ × β)) (k : κ) (v : β) (s : κ) : mget (mset m k v) s = if s = k then some v else mget m s := by
  induction m with
  | nil => simp [mset, mget]
  | cons p m ih =>
    unfold mset
    by_cases h : k = p.1
    · rw [if_pos h]
      by_cases hs : s = k
      · simp [mget, hs]
      · simp [mget, hs, ← h]
    · rw [if_neg h]
      by_cases hs : s = p.1
      · have : s ≠ k := fun e => h (e ▸ hs)
        simp [mget, hs, this]; intro e; exact absurd e.symm h
      · simp [mget, hs, ih]
def namesE (l : List Ent) : List Str := l.map (·.2.1)
def ordOK (l : List Ent) (i : Nat) : Bool := match l[i]? with
  | none => true
  | some e => !decide (e.2.1 ∈ namesE (l.take i)) && (if i = 0 then true else match l[i - 1]? with | none => true | some d => decide (cmpS (keyE d) (keyE e) < 0))
def orderedB (l : List Ent) : Bool := (List.range l.length).all (ordOK l)
theorem ordOK_eq (l : List Ent) (i : Nat) (h : i < l.length) : ordOK l i = (!decide (l[i].2.1 ∈ namesE (l.take i)) && (decide (i = 0) || decide (cmpS (keyE (l.getD (i - 1) GoZero.z)) (keyE l[i]) < 0))) := by
  unfold ordOK
  rw [List.getElem?_eq_getElem h]
  by_cases h0 : i = 0
  · simp [h0]
  · have h1 : i - 1 < l.length := by omega
    simp [h0, h1, List.getD_eq_getElem?_getD]
theorem clipE_c (l : List Ent) : FnP Tryz.prog 101 [Sl l] (Sl l) := by
  refine FnP_intro (by kernel_rfl) Tryz.func101 rfl Tryz.ntmps101 rfl (fun e => ?_)
  refine JSR ?_
  refine JQ (Q_assign At.const) rfl ?_
  refine JNSR ?_
  refine JM rfl rfl ?_
  refine JM rfl rfl ?_
  refine JQ (Q_len Tryz.underlying140 rfl (.tmp rfl)) rfl ?_
  refine JM rfl rfl ?_
  refine JQ (Q_len Tryz.underlying140 rfl (.tmp rfl)) rfl ?_
  refine JQ (Q_clip Tryz.underlying140 T180.size (.tmp rfl) trivial ⟨⟨_, (.tmp rfl)⟩, ⟨_, (.tmp rfl)⟩⟩ (by first | omega | simp <;> omega) (by first | omega | simp <;> omega) (by first | omega | simp <;> omega) (by first | omega | simp <;> omega)) rfl ?_
  refine JA rfl rfl ?_
  refine JN ?_
  refine J_retc ?_
  exact J_ret1 rfl (ResAt.tmp rfl) () trivial Split.nil (imp_eq (vsl_eq (by simp)))
theorem ordered_c (l : List Ent) (hn : ∀ e ∈ l, e.2.1.l.length ≤ 1048576) : FnP Tryz.prog 100 [Sl l] (VBool (orderedB l)) := by
  have hnk : ∀ k (h : k < l.length), (l[k]).2.1.l.length ≤ 1048576 := fun k h => hn _ (List.getElem_mem h)
  have hnz : ∀ i, (l.getD i GoZero.z).2.1.l.length ≤ 1048576 := fun i => by
    by_cases h : i < l.length
    · have : l.getD i GoZero.z = l[i] := by simp [List.getD_eq_getElem?_getD, h]
      rw [this]; exact hnk i h
    · have : l.getD i GoZero.z = (GoZero.z : Ent) := by simp [List.getD_eq_getElem?_getD, Nat.not_lt.1 h]
      rw [this]; exact Nat.zero_le _
  refine FnP_intro (by kernel_rfl) Tryz.func100 rfl Tryz.ntmps100 rfl (fun e => ?_)
  refine J_lenLe (t := 0) rfl (fun hl0 => ?_)
  refine JSR ?_
  refine JQ (Q_assign At.bool) rfl ?_
  refine JNSR ?_
  refine J_makeMap Str Bool rfl (fun b6 => ?_)
  refine JA rfl rfl ?_
  refine JNSSR ?_
  refine JM rfl rfl ?_
  refine JQ (Q_len Tryz.underlying140 rfl (.tmp rfl)) rfl ?_
  refine JQ (Q_move At.int) rfl ?_
  refine JN ?_
  refine J_block ?_
  refine J_loopU (ι := Nat × List (Str × Bool)) (fun q => match q with | (k, m) => k ≤ l.length ∧ (∀ s, (mget m s).getD false = decide (s ∈ namesE (l.take k))) ∧ ∀ j, j < k → ordOK l j = true) (fun q => match q with | (k, m) => [(9, VInt .i64 (k : Nat))]) [(0, _), (3, _), (7, _), (8, _)] (fun q => match q with | (k, m) => [MapR b6 m]) (fun q => match q with | (k, m) => l.length - k) ((0, [])) ⟨by omega, by intro s; simp [mget, namesE], by intros; omega⟩ ⟨fe rfl (by first | rfl | exact vint_eq (by first | omega | simp <;> omega) | exact vsl_eq (by simp) | exact vstr_eq (by simp)), trivial⟩ ⟨rfl, rfl, rfl, rfl, trivial⟩ (Has.take (Repl.map (by repeat first | exact R0 | apply RT) (by first | rfl | simp)) Has.nil) (fun q hq => ?_)
  obtain ⟨k, m⟩ := q
  try dsimp only at hq
  obtain ⟨hk, hm, hall⟩ := hq
  refine JSR ?_
  refine JQ (Q_lss (.tmp rfl) (.tmp rfl)) rfl ?_
  refine JN ?_
  refine J_seq ?_
  refine J_cond (.tmp rfl) (fun h0 => ?_) (fun h0 => ?_)
  · try simp only [BS, ne_eq] at h0
    refine J_skip ?_
    refine J_then_normal ?_
    refine J_seq ?_
    refine J_block ?_
    refine JSR ?_
    refine JM rfl rfl ?_
    refine JQ (by first | exact Q_idxAddrN Tryz.underlying140 T180.size (.tmp rfl) (.tmp rfl) (by first | omega | simp <;> omega) | exact Q_idxAddr Tryz.underlying140 T180.size (.tmp rfl) (.tmp rfl) (by first | omega | simp <;> omega) (by first | omega | simp <;> omega)) rfl ?_
    refine JQ (Q_load (.tmp rfl) T180) rfl ?_
    refine J_alloc Z180 rfl (fun b5 => ?_)
    refine JA rfl rfl ?_
    refine J_store (.tmp rfl) (.tmp rfl) (by (try dsimp only) <;> rfl) (by repeat first | exact R1 | apply RT) Lens.id T180.size ?_
    refine J_freezeB (sl := 5) (by repeat first | exact R0 | apply RT) rfl ?_
    refine JN ?_
    refine J_seq ?_
    refine J_seq ?_
    refine J_draw mix 18 [14, 15, 16, 17, 18, 19, 20, 21, 22, 23, 24, 25, 26, 27, 28, 29, 30, 31] [_, _, _, _, _, _, _, _, _, _, _, _, _, _, _, _, _, _] rfl rfl (by kernel_rfl) (by kernel_rfl) (by kernel_rfl) (by kernel_rfl) (by kernel_rfl) ⟨QS (Q_move (.tmp rfl)) rfl, QS (Q_fieldAddrI F180_1 (by decide) (Lens.snd (Lens.fst Lens.id) (by first | rfl | (simp only [Enc.size, Nat.zero_add, Nat.mul_one, Nat.add_zero]; omega))) (.tmp rfl)) rfl, QS (Q_strOf (Q_load (.tmp rfl) T9) (by (try dsimp only) <;> rfl)) rfl, QS ((by first | exact Q_lookup Tryz.underlying212 (KT9) Z4 (.tmp rfl) (At.toStr (.tmp rfl)) | exact Q_lookupR Tryz.underlying212 (KT9) Z4 (.tmp rfl) (At.toStr (.tmp rfl)) (by repeat first | exact R0 | apply RT))) rfl, QS (Q_move (.tmp rfl)) rfl, QG rfl rfl rfl rfl rfl opt_bool (fun hg => Q_move (.tmp rfl)), QG rfl rfl rfl rfl rfl opt_bool (fun hg => (by have hg0 := hg; simp only [BS, ne_eq] at hg0; exact Q_gtr (At.opt rfl (by first | exact hg | (simp only [BS, ne_eq] at hg ⊢; first | exact hg | simp_all))) At.int)), QG rfl rfl rfl rfl rfl opt_bool (fun hg => (by have hg0 := hg; simp only [BS, ne_eq] at hg0; exact Q_move (At.opt rfl (by first | exact hg | (simp only [BS, ne_eq] at hg ⊢; first | exact hg | simp_all))))), QG rfl rfl rfl rfl rfl opt_opt (fun hg => Q_move (.tmp rfl)), QG rfl rfl rfl rfl rfl opt_opt (fun hg => Q_move (.tmp rfl)), QG rfl rfl rfl rfl rfl opt_opt (fun hg => (by have hg0 := hg; simp only [BS, ne_eq] at hg0; exact Q_subi (At.opt rfl (by first | exact hg | (simp only [BS, ne_eq] at hg ⊢; first | exact hg | simp_all))) At.int (by first | omega | simp <;> omega) (by first | omega | simp <;> omega))), QG rfl rfl rfl rfl rfl opt_opt (fun hg => (by have hg0 := hg; simp only [BS, ne_eq] at hg0; exact Q_idxAddrZ Tryz.underlying140 T180.size (At.opt rfl (by first | exact hg | (simp only [BS, ne_eq] at hg ⊢; first | exact hg | simp_all))) (At.opt rfl (by first | exact hg | (simp only [BS, ne_eq] at hg ⊢; first | exact hg | simp_all))) (by first | omega | simp <;> omega) (by first | omega | simp <;> omega))), QG rfl rfl rfl rfl rfl opt_opt (fun hg => (by have hg0 := hg; simp only [BS, ne_eq] at hg0; exact Q_load (At.opt rfl (by first | exact hg | (simp only [BS, ne_eq] at hg ⊢; first | exact hg | simp_all))) T180)), QG rfl rfl rfl rfl rfl opt_opt (fun hg => Q_load (.tmp rfl) T180), QG rfl rfl rfl rfl rfl opt_opt (fun hg => (by have hg0 := hg; simp only [BS, ne_eq] at hg0; exact Q_call (order_c _ _ (hnz _) (hnk _ _)) ⟨(At.opt rfl (by first | exact hg | (simp only [BS, ne_eq] at hg ⊢; first | exact hg | simp_all))), (At.opt rfl (by first | exact hg | (simp only [BS, ne_eq] at hg ⊢; first | exact hg | simp_all))), trivial⟩)), QG rfl rfl rfl rfl rfl opt_opt (fun hg => (by have hg0 := hg; simp only [BS, ne_eq] at hg0; exact Q_geq (At.opt rfl (by first | exact hg | (simp only [BS, ne_eq] at hg ⊢; first | exact hg | simp_all))) At.int)), QG rfl rfl rfl rfl rfl opt_bool (fun hg => (by have hg0 := hg; simp only [BS, ne_eq] at hg0; exact Q_andB (At.opt rfl (by first | exact hg | (simp only [BS, ne_eq] at hg ⊢; first | exact hg | simp_all))) (fun hb => At.opt rfl (by simp only [BS, ne_eq] at hb ⊢; first | exact hb | simp_all)))), QS (Q_orB (.tmp rfl) (fun hb => At.opt rfl (by simp only [BS, ne_eq] at hb ⊢; first | exact hb | simp_all))) rfl, trivial⟩ ?_
    refine JN ?_
    refine J_cond (.tmp rfl) (fun h1 => ?_) (fun h1 => ?_)
    · try simp only [BS, ne_eq] at h1
      have hmk : (mget m { l := l[k].snd.1.l }).getD GoZero.z = decide (l[k].2.1 ∈ namesE (l.take k)) := hm l[k].2.1
      have ek : ((k : Int) - 1).toNat = k - 1 := (by first | omega | simp <;> omega)
      rw [hmk, ek] at h1
      have hok : ordOK l k = false := by rw [ordOK_eq l k (by first | omega | simp <;> omega)]; rcases h1 with h | ⟨h2, h3⟩; (rw [h]; rfl); (rw [decide_eq_false (show ¬ k = 0 by omega), decide_eq_false (show ¬ cmpS (keyE (l.getD (k - 1) GoZero.z)) (keyE l[k]) < 0 by omega)]; simp)
      refine JSR ?_
      refine JQ (Q_assign At.bool) rfl ?_
      refine JN ?_
      refine J_retc ?_
      refine J_then_ret ?_
      refine J_blk_ret ?_
      refine J_then_ret ?_
      refine J_then_ret ?_
      refine J_blk_ret ?_
      refine J_then_ret ?_
      exact J_ret1 rfl (ResAt.tmp rfl) () trivial Split.nil (imp_eq (vbool_eq (by symm; unfold orderedB; rw [List.all_eq_false]; exact ⟨k, by rw [List.mem_range]; omega, by rw [hok]; simp⟩)))
    try simp only [BS, ne_eq] at h1
    have hmk : (mget m { l := l[k].snd.1.l }).getD GoZero.z = decide (l[k].2.1 ∈ namesE (l.take k)) := hm l[k].2.1
    have ek : ((k : Int) - 1).toNat = k - 1 := (by first | omega | simp <;> omega)
    rw [hmk, ek] at h1
    have hok : ordOK l k = true := by rw [ordOK_eq l k (by first | omega | simp <;> omega)]; obtain ⟨h, h2⟩ := h1; rw [h]; rcases h2 with h2 | h2; (rw [decide_eq_true (show k = 0 by omega)]; simp); (rw [decide_eq_true (show cmpS (keyE (l.getD (k - 1) GoZero.z)) (keyE l[k]) < 0 by omega)]; simp)
    refine J_skip ?_
    refine J_then_normal ?_
    refine J_region ?_
    refine JM rfl rfl ?_
    refine JQ (Q_fieldAddrI F180_1 (by decide) (Lens.snd (Lens.fst Lens.id) (by first | rfl | (simp only [Enc.size, Nat.zero_add, Nat.mul_one, Nat.add_zero]; omega))) (.tmp rfl)) rfl ?_
    refine JQ (Q_strOf (Q_load (.tmp rfl) T9) (by (try dsimp only) <;> rfl)) rfl ?_
    refine J_mapUpdate (κ := Str) (β := Bool) Tryz.underlying212 (KT9) (.tmp rfl) (At.toStr (.tmp rfl)) At.bool rfl (by repeat first | exact R1 | apply RT) ?_
    refine J_nil ?_
    refine J_blk_normal ?_
    refine J_then_normal ?_
    refine J_region ?_
    refine JQ (Q_addi (.tmp rfl) At.int (by first | omega | simp <;> omega) (by first | omega | simp <;> omega)) rfl ?_
    refine JM rfl rfl ?_
    refine JN ?_
    refine J_back ((k + 1, mset m (l[k]).2.1 true)) ?_ ?_ ?_ ?_
    · exact ⟨⟨by omega, by intro s; rw [mget_mset, namesE, List.take_succ_eq_append_getElem (by first | omega | simp <;> omega), List.map_append]; by_cases hs : s = (l[k]).2.1; (simp [hs]); (have := hm s; simp [namesE] at this; simp [hs, this]), by intro j hj; by_cases e : j = k; (subst e; exact hok); exact hall j (by first | omega | simp <;> omega)⟩, by simp only; omega⟩
    · exact ⟨fe rfl (by first | rfl | exact vint_eq (by first | omega | simp <;> omega) | exact vsl_eq (by simp) | exact vstr_eq (by simp)), trivial⟩
    · exact ⟨rfl, rfl, rfl, rfl, trivial⟩
    · exact (Has.take (Repl.map (by repeat first | exact R0 | apply RT) (by first | rfl | simp)) Has.nil)
  try simp only [BS, ne_eq] at h0
  refine J_exit ?_
  refine J_then_exit ?_
  refine J_then_exit ?_
  refine J_blk_out ?_
  refine J_then_normal ?_
  refine JSR ?_
  refine JQ (Q_assign At.bool) rfl ?_
  refine JN ?_
  refine J_retc ?_
  exact J_ret1 rfl (ResAt.tmp rfl) () trivial Split.nil (imp_eq (vbool_eq (by symm; unfold orderedB; rw [List.all_eq_true]; intro j hj; rw [List.mem_range] at hj; exact hall j (by first | omega | simp <;> omega))))
end Go.Sep
namespace Go.Sep
open Go Go.Proofs
open Enc (V)
attribute [local irreducible] Quiet QStep J At FnX Fn FnP Repl Split Has Post Back GoZ
def mkE (b : Bs) (h : 20 ≤ (cutB b 0).2.1.length) : Ent := ((modeOfB (cutB (cutB b 0).1 32).1).1, ⟨(cutB (cutB b 0).1 32).2.1⟩, ⟨(cutB b 0).2.1.take 20, by rw [List.length_take]; omega⟩)
def entB (b : Bs) : Option (Ent × Bs) :=
  if (cutB b 0).2.2 = true ∧ (cutB (cutB b 0).1 32).2.2 = true ∧ (modeOfB (cutB (cutB b 0).1 32).1).2 = true ∧ namedB (cutB (cutB b 0).1 32).2.1 = true then
    (if h : 20 ≤ (cutB b 0).2.1.length then some (mkE b h, (cutB b 0).2.1.drop 20) else none) else none
theorem entB_yes {b : Bs} (h1 : (cutB b 0).2.2 = true) (h2 : (cutB (cutB b 0).1 32).2.2 = true) (h3 : (modeOfB (cutB (cutB b 0).1 32).1).2 = true) (h4 : namedB (cutB (cutB b 0).1 32).2.1 = true) (h5 : 20 ≤ (cutB b 0).2.1.length) :
    entB b = some (mkE b h5, (cutB b 0).2.1.drop 20) := by unfold entB; rw [if_pos ⟨h1, h2, h3, h4⟩, dif_pos h5]
theorem entB_no {b : Bs} (h : (((((cutB b 0).2.2 = false ∨ (cutB (cutB b 0).1 32).2.2 = false) ∨ (modeOfB (cutB (cutB b 0).1 32).1).2 = false) ∨ namedB (cutB (cutB b 0).1 32).2.1 = false) ∨ (cutB b 0).2.1.length < 20)) : entB b = none := by
  unfold entB
  split
  · rename_i hc
    rw [dif_neg]
    intro h5
    rcases h with (((h | h) | h) | h) | h
    · rw [hc.1] at h; cases h
    · rw [hc.2.1] at h; cases h
    · rw [hc.2.2.1] at h; cases h
    · rw [hc.2.2.2] at h; cases h
    · omega
  · rfl
def entsN : Nat → Bs → List Ent → Option (List Ent)
  | 0, b, acc => if b = [] then some acc else none
  | k + 1, b, acc => if b = [] then some acc else match entB b with
    | none => none
    | some (e, r) => entsN k r (acc ++ [e])
def treeB (b : Bs) : Option (List Ent) := entsN b.length b []
theorem entsN_nil (k : Nat) (acc : List Ent) : entsN k [] acc = some acc := by cases k <;> simp [entsN]
theorem entsN_none {k : Nat} {b : Bs} {acc : List Ent} (hb : b ≠ []) (hk : b.length ≤ k) (h : entB b = none) : entsN k b acc = none := by
  cases k with
  | zero => exact absurd (List.length_eq_zero_iff.1 (by omega)) hb
  | succ k => simp [entsN, hb, h]
theorem entsN_some {k : Nat} {b r : Bs} {acc : List Ent} {e : Ent} (hb : b ≠ []) (h : entB b = some (e, r)) : entsN (k + 1) b acc = entsN k r (acc ++ [e]) := by
  simp [entsN, hb, h]
def dtreeB (b : Bs) : List Ent × Int := if 16384 < b.length then ([], 5) else match treeB b with
  | none => ([], 2)
  | some l => if orderedB l = true then (if 512 < l.length then ([], 5) else (l, 0)) else ([], 2)
theorem dtree_none {b : Bs} (hb : ¬ 16384 < b.length) (h : treeB b = none) : dtreeB b = ([], 2) := by unfold dtreeB; rw [if_neg hb, h]
theorem dtree_some {b : Bs} {l : List Ent} (hb : ¬ 16384 < b.length) (h : treeB b = some l) : dtreeB b = if orderedB l = true then (if 512 < l.length then ([], 5) else (l, 0)) else ([], 2) := by unfold dtreeB; rw [if_neg hb, h]
theorem namedB_len {s : Bs} (h : namedB s = true) : s.length ≤ 100 := by
  unfold namedB at h
  simp only [Bool.and_eq_true, decide_eq_true_eq] at h
  omega
theorem dtree_c (b : Bytes) : FnP Tryz.prog 74 [Sl b] (VTup [Sl (dtreeB b).1, VInt .i64 (dtreeB b).2]) := by
  refine FnP_intro (by kernel_rfl) Tryz.func74 rfl Tryz.ntmps74 rfl (fun e => ?_)
  refine J_lenLe (t := 0) rfl (fun hl0 => ?_)
  refine JSR ?_
  refine JQ (Q_assign (At.nils (α := (Int × Str × (Arr 20 UInt8))))) rfl ?_
  refine JQ (Q_assign At.int) rfl ?_
  refine JNSSR ?_
  refine JM rfl rfl ?_
  refine JQ (Q_len Tryz.underlying23 rfl (.tmp rfl)) rfl ?_
  refine JQ (Q_gtr (.tmp rfl) At.int) rfl ?_
  refine JN ?_
  refine J_cond (.tmp rfl) (fun h0 => ?_) (fun h0 => ?_)
  · try simp only [BS, ne_eq] at h0
    refine JSR ?_
    refine JQ (Q_assign (At.nils (α := (Int × Str × (Arr 20 UInt8))))) rfl ?_
    refine JQ (Q_assign At.int) rfl ?_
    refine JN ?_
    refine J_retc ?_
    refine J_then_ret ?_
    exact J_ret2 rfl (ResAt.tmp rfl) (ResAt.tmp rfl) () trivial Split.nil (imp_eq (by unfold dtreeB; rw [if_pos (by first | omega | simp <;> omega)]))
  try simp only [BS, ne_eq] at h0
  refine J_skip ?_
  refine J_then_normal ?_
  refine JSR ?_
  refine JQ (Q_assign At.const) rfl ?_
  refine JN ?_
  refine J_seq ?_
  refine J_block ?_
  refine J_rowNil (el := 180) Ent ?_
  refine J_loopU (ι := Bytes × List Ent × Value) (fun q => match q with | (b1, l, u) => (∀ e ∈ l, e.2.1.l.length ≤ 1048576) ∧ l.length + b1.length ≤ 16384 ∧ ∃ k, b1.length ≤ k ∧ treeB b = entsN k b1 l) (fun q => match q with | (b1, l, u) => [(0, Sl b1), (4, Is u)]) [] (fun q => match q with | (b1, l, u) => [RowR 180 u l]) (fun q => match q with | (b1, l, u) => b1.length) ((b, [], .slice none 0 0)) ⟨by simp, by simp only [List.length_nil]; omega, b.length, Nat.le_refl _, rfl⟩ ⟨fe rfl (by first | rfl | exact vint_eq (by first | omega | simp <;> omega) | exact vsl_eq (by simp) | exact vstr_eq (by simp)), fe rfl (by first | rfl | exact vint_eq (by first | omega | simp <;> omega) | exact vsl_eq (by simp) | exact vstr_eq (by simp)), trivial⟩ trivial (Has.take (Repl.row (by repeat first | exact R0 | apply RT) (by first | rfl | simp)) Has.nil) (fun q hq => ?_)
  obtain ⟨b1, l, u⟩ := q
  try dsimp only at hq
  obtain ⟨hnm, hlen, kk, hkk, htr⟩ := hq
  have hl1 := cutB_len b1 (UInt8.ofNat 0)
  have hl2 := cutB_len (cutB b1 (UInt8.ofNat 0)).1 32
  have hl0 : b1.length ≤ 16384 := (by first | omega | simp <;> omega)
  refine J_seq ?_
  refine JSR ?_
  refine JM rfl rfl ?_
  refine JQ (Q_len Tryz.underlying23 rfl (.tmp rfl)) rfl ?_
  refine JQ (Q_gtr (.tmp rfl) At.int) rfl ?_
  refine JN ?_
  refine J_cond (.tmp rfl) (fun h1 => ?_) (fun h1 => ?_)
  · try simp only [BS, ne_eq] at h1
    refine J_skip ?_
    refine J_then_normal ?_
    refine J_block ?_
    refine JSR ?_
    refine JM rfl rfl ?_
    refine JQ (Q_buildSlice (α := UInt8) E5 Tryz.underlying23 [.const (.int .u8 0)] [_] rfl rfl ⟨(At.k8 (z := 0) (by decide)), trivial⟩ (Nat.le_of_ble_eq_true rfl)) rfl ?_
    refine JQ (Q_call (bCut_c _ _) ⟨(.tmp rfl), (.tmp rfl), trivial⟩) rfl ?_
    refine JM rfl rfl ?_
    refine JQ (Q_extract (.tmp rfl) rfl) rfl ?_
    refine JQ (Q_extract (.tmp rfl) rfl) rfl ?_
    refine JQ (Q_extract (.tmp rfl) rfl) rfl ?_
    refine JA rfl rfl ?_
    refine JA rfl rfl ?_
    refine JA rfl rfl ?_
    refine JNSR ?_
    refine JM rfl rfl ?_
    refine JQ (Q_toStr Tryz.underlying23 Tryz.underlying5 Tryz.underlying9 (.tmp rfl)) rfl ?_
    refine JQ (Q_call (strCut_c _ _ (by first | omega | (simp; omega))) ⟨(.tmp rfl), At.str, trivial⟩) rfl ?_
    refine JM rfl rfl ?_
    refine JQ (Q_extract (.tmp rfl) rfl) rfl ?_
    refine JQ (Q_extract (.tmp rfl) rfl) rfl ?_
    refine JQ (Q_extract (.tmp rfl) rfl) rfl ?_
    refine JA rfl rfl ?_
    refine JA rfl rfl ?_
    refine JA rfl rfl ?_
    refine JNSR ?_
    refine JM rfl rfl ?_
    refine JQ (Q_call (modeOf_c _) ⟨(.tmp rfl), trivial⟩) rfl ?_
    refine JM rfl rfl ?_
    refine JQ (Q_extract (.tmp rfl) rfl) rfl ?_
    refine JQ (Q_extract (.tmp rfl) rfl) rfl ?_
    refine JA rfl rfl ?_
    refine JA rfl rfl ?_
    refine JNSSR ?_
    refine JM rfl rfl ?_
    refine JQ (Q_not (.tmp rfl)) rfl ?_
    refine JM rfl rfl ?_
    refine J_qstep (QG rfl rfl rfl rfl rfl opt_bool (fun hg => Q_move (.tmp rfl))) rfl rfl ?_
    refine J_qstep (QG rfl rfl rfl rfl rfl opt_bool (fun hg => (by have hg0 := hg; simp only [BS, ne_eq] at hg0; exact Q_not (At.opt rfl (by first | exact hg | (simp only [BS, ne_eq] at hg ⊢; first | exact hg | simp_all)))))) rfl rfl ?_
    refine JQ (Q_orB (.tmp rfl) (fun hb => At.opt rfl (by simp only [BS, ne_eq] at hb ⊢; first | exact hb | simp_all))) rfl ?_
    refine JM rfl rfl ?_
    refine J_qstep (QG rfl rfl rfl rfl rfl opt_bool (fun hg => Q_move (.tmp rfl))) rfl rfl ?_
    refine J_qstep (QG rfl rfl rfl rfl rfl opt_bool (fun hg => (by have hg0 := hg; simp only [BS, ne_eq] at hg0; exact Q_not (At.opt rfl (by first | exact hg | (simp only [BS, ne_eq] at hg ⊢; first | exact hg | simp_all)))))) rfl rfl ?_
    refine JQ (Q_orB (.tmp rfl) (fun hb => At.opt rfl (by simp only [BS, ne_eq] at hb ⊢; first | exact hb | simp_all))) rfl ?_
    refine JM rfl rfl ?_
    refine J_qstep (QG rfl rfl rfl rfl rfl opt_bool (fun hg => Q_move (.tmp rfl))) rfl rfl ?_
    refine J_qstep (QG rfl rfl rfl rfl rfl opt_bool (fun hg => (by have hg0 := hg; simp only [BS, ne_eq] at hg0; exact Q_call (named_c _ (by first | omega | simp <;> omega)) ⟨(At.opt rfl (by first | exact hg | (simp only [BS, ne_eq] at hg ⊢; first | exact hg | simp_all))), trivial⟩))) rfl rfl ?_
    refine J_qstep (QG rfl rfl rfl rfl rfl opt_bool (fun hg => (by have hg0 := hg; simp only [BS, ne_eq] at hg0; exact Q_not (At.opt rfl (by first | exact hg | (simp only [BS, ne_eq] at hg ⊢; first | exact hg | simp_all)))))) rfl rfl ?_
    refine JQ (Q_orB (.tmp rfl) (fun hb => At.opt rfl (by simp only [BS, ne_eq] at hb ⊢; first | exact hb | simp_all))) rfl ?_
    refine JM rfl rfl ?_
    refine J_qstep (QG rfl rfl rfl rfl rfl opt_bool (fun hg => Q_move (.tmp rfl))) rfl rfl ?_
    refine J_qstep (QG rfl rfl rfl rfl rfl opt_bool (fun hg => (by have hg0 := hg; simp only [BS, ne_eq] at hg0; exact Q_len Tryz.underlying23 rfl (At.opt rfl (by first | exact hg | (simp only [BS, ne_eq] at hg ⊢; first | exact hg | simp_all)))))) rfl rfl ?_
    refine J_qstep (QG rfl rfl rfl rfl rfl opt_bool (fun hg => (by have hg0 := hg; simp only [BS, ne_eq] at hg0; exact Q_lss (At.opt rfl (by first | exact hg | (simp only [BS, ne_eq] at hg ⊢; first | exact hg | simp_all))) At.int))) rfl rfl ?_
    refine JQ (Q_orB (.tmp rfl) (fun hb => At.opt rfl (by simp only [BS, ne_eq] at hb ⊢; first | exact hb | simp_all))) rfl ?_
    refine JN ?_
    refine J_cond (.tmp rfl) (fun h2 => ?_) (fun h2 => ?_)
    · try simp only [BS, ne_eq] at h2
      have hne : b1 ≠ [] := by rintro rfl; simp at h1
      have hent : entB b1 = none := entB_no (h2.imp id (fun h => by exact Int.ofNat_lt.1 h))
      refine JSR ?_
      refine JQ (Q_assign (At.nils (α := (Int × Str × (Arr 20 UInt8))))) rfl ?_
      refine JQ (Q_assign At.int) rfl ?_
      refine JN ?_
      refine J_retc ?_
      refine J_then_ret ?_
      refine J_blk_ret ?_
      refine J_then_ret ?_
      refine J_blk_ret ?_
      refine J_then_ret ?_
      exact J_ret2 rfl (ResAt.tmp rfl) (ResAt.tmp rfl) () trivial Split.nil (imp_eq (by rw [dtree_none (by first | omega | simp <;> omega) (by rw [htr, entsN_none hne hkk hent])]))
    try simp only [BS, ne_eq] at h2
    have h20 : 20 ≤ (cutB b1 0).2.1.length := by have h9 := h2.2; exact (show 20 ≤ (cutB b1 (UInt8.ofNat 0)).2.1.length by omega)
    have hent := entB_yes (b := b1) h2.1.1.1.1 h2.1.1.1.2 h2.1.1.2 h2.1.2 h20
    have hne : b1 ≠ [] := by rintro rfl; simp at h1
    have hr : (cutB b1 0).2.1.length ≤ b1.length := hl1.2
    have hnx : ∀ e ∈ l ++ [mkE b1 h20], e.2.1.l.length ≤ 1048576 := by intro e2 he; rcases List.mem_append.1 he with he | he; exact hnm e2 he; simp at he; subst he; exact Nat.le_trans (namedB_len h2.1.2) (by decide)
    refine J_skip ?_
    refine J_then_normal ?_
    refine JSR ?_
    refine JM rfl rfl ?_
    refine JM rfl rfl ?_
    refine JM rfl rfl ?_
    refine JM rfl rfl ?_
    refine JQ (Q_slice Tryz.underlying23 T5.size (.tmp rfl) rfl ⟨_, At.int⟩ (by first | omega | simp <;> omega) (by first | omega | simp <;> omega) (by first | omega | simp <;> omega)) rfl ?_
    refine JQ (Q_toArr Tryz.underlying38 (.tmp rfl) (by first | omega | simp <;> omega) (by first | omega | simp <;> omega)) rfl ?_
    refine JQ (Q_load (.tmp rfl) T38) rfl ?_
    refine JQ (Q_build Z180 T180.agg (by kernel_rfl) (BP.cons PL180_0 (Lens.fst Lens.id) (.tmp rfl) (BP.cons PL180_1 (Lens.snd (Lens.fst Lens.id) (by first | rfl | (simp only [Enc.size, Nat.zero_add, Nat.mul_one, Nat.add_zero]; omega))) (At.toStr (.tmp rfl)) (BP.cons PL180_2 (Lens.snd (Lens.snd Lens.id (by first | rfl | (simp only [Enc.size, Nat.zero_add, Nat.mul_one, Nat.add_zero]; omega))) (by first | rfl | (simp only [Enc.size, Nat.zero_add, Nat.mul_one, Nat.add_zero]; omega))) (.tmp rfl) BP.nil)))) rfl ?_
    refine JQ (Q_buildSlice (α := (Int × Str × (Arr 20 UInt8))) E180 Tryz.underlying140 [.tmp 65] [_] rfl rfl ⟨(.tmp rfl), trivial⟩ (Nat.le_of_ble_eq_true rfl)) rfl ?_
    refine J_append (α := (Int × Str × (Arr 20 UInt8))) E180 Tryz.underlying140 (.tmp rfl) (.tmp rfl) (by repeat first | exact R0 | apply RT) (by first | omega | (simp; omega)) (by first | (simp only [maxLen]; omega) | (simp [maxLen]; omega)) rfl (fun v67 => ?_)
    refine JA rfl rfl ?_
    refine JNR ?_
    refine JM rfl rfl ?_
    refine JQ (Q_slice Tryz.underlying23 T5.size (.tmp rfl) ⟨_, At.int⟩ rfl (by first | omega | simp <;> omega) (by first | omega | simp <;> omega) (by first | omega | simp <;> omega)) rfl ?_
    refine JA rfl rfl ?_
    refine J_nil ?_
    refine J_blk_normal ?_
    refine J_then_normal ?_
    refine J_back (((cutB b1 0).2.1.drop 20, l ++ [mkE b1 h20], v67)) ?_ ?_ ?_ ?_
    · exact ⟨⟨hnx, by simp only [List.length_append, List.length_cons, List.length_nil, List.length_drop]; omega, kk - 1, by simp only [List.length_drop]; omega, by obtain ⟨k2, rfl⟩ : ∃ k2, kk = k2 + 1 := ⟨kk - 1, by omega⟩; rw [htr, entsN_some hne hent]; rfl⟩, by simp only [List.length_drop]; omega⟩
    · exact ⟨fe rfl (by first | rfl | exact vint_eq (by first | omega | simp <;> omega) | exact vsl_eq (by simp) | exact vstr_eq (by simp)), fe rfl (by first | rfl | exact vint_eq (by first | omega | simp <;> omega) | exact vsl_eq (by simp) | exact vstr_eq (by simp)), trivial⟩
    · exact trivial
    · exact (Has.take (Repl.row (by repeat first | exact R0 | apply RT) (by refine congrArg (fun q => l ++ [q]) (Prod.ext rfl (Prod.ext rfl (Arr.ext' ?_))); simp [mkE, List.take_take])) Has.nil)
  try simp only [BS, ne_eq] at h1
  refine J_exit ?_
  refine J_then_exit ?_
  refine J_then_exit ?_
  refine J_blk_out ?_
  refine J_then_normal ?_
  refine J_seq ?_
  refine J_block ?_
  refine JSR ?_
  refine J_freezeR (sl := 4) (by repeat first | exact R0 | apply RT) rfl ?_
  have hb1 : b1 = [] := List.length_eq_zero_iff.1 (by first | omega | simp <;> omega)
  subst hb1
  rw [entsN_nil] at htr
  refine JM rfl rfl ?_
  refine JQ (Q_call (ordered_c _ (by assumption)) ⟨(.tmp rfl), trivial⟩) rfl ?_
  refine JQ (Q_not (.tmp rfl)) rfl ?_
  refine JA rfl rfl ?_
  refine JN ?_
  refine J_cond (.tmp rfl) (fun h3 => ?_) (fun h3 => ?_)
  · try simp only [BS, ne_eq] at h3
    refine JSR ?_
    refine JQ (Q_assign (At.nils (α := (Int × Str × (Arr 20 UInt8))))) rfl ?_
    refine JQ (Q_assign At.int) rfl ?_
    refine JN ?_
    refine J_retc ?_
    refine J_blk_ret ?_
    refine J_then_ret ?_
    exact J_ret2 rfl (ResAt.tmp rfl) (ResAt.tmp rfl) () trivial Split.nil (imp_eq (by rw [dtree_some (by first | omega | simp <;> omega) htr]; simp_all))
  try simp only [BS, ne_eq] at h3
  refine JSR ?_
  refine JM rfl rfl ?_
  refine JQ (Q_len Tryz.underlying140 rfl (.tmp rfl)) rfl ?_
  refine JQ (Q_gtr (.tmp rfl) At.int) rfl ?_
  refine JA rfl rfl ?_
  refine JN ?_
  refine J_cond (.tmp rfl) (fun h4 => ?_) (fun h4 => ?_)
  · try simp only [BS, ne_eq] at h4
    refine JSR ?_
    refine JQ (Q_assign (At.nils (α := (Int × Str × (Arr 20 UInt8))))) rfl ?_
    refine JQ (Q_assign At.int) rfl ?_
    refine JN ?_
    refine J_retc ?_
    refine J_blk_ret ?_
    refine J_then_ret ?_
    exact J_ret2 rfl (ResAt.tmp rfl) (ResAt.tmp rfl) () trivial Split.nil (imp_eq (by rw [dtree_some (by first | omega | simp <;> omega) htr, if_pos h3, if_pos (by first | omega | simp <;> omega)]))
  try simp only [BS, ne_eq] at h4
  refine J_skip ?_
  refine J_blk_normal ?_
  refine J_then_normal ?_
  refine JSR ?_
  refine JM rfl rfl ?_
  refine JQ (Q_call (clipE_c _) ⟨(.tmp rfl), trivial⟩) rfl ?_
  refine JA rfl rfl ?_
  refine JQ (Q_assign At.int) rfl ?_
  refine JN ?_
  refine J_retc ?_
  exact J_ret2 rfl (ResAt.tmp rfl) (ResAt.tmp rfl) () trivial Split.nil (imp_eq (by rw [dtree_some (by first | omega | simp <;> omega) htr, if_pos h3, if_neg (by first | omega | simp <;> omega)]))
end Go.Sep
namespace Go.Sep
open Go Go.Proofs
open Enc (V)
attribute [local irreducible] Quiet QStep J At FnX Fn FnP Repl Split Has Post Back GoZ
abbrev TagD := Oid × Int × Str × Str × Str
def tagWrong (t : TagD) : Bool := decide (wordB t.2.1 = []) || !textB t.2.2.1.l 100 || !textB t.2.2.2.1.l 200
theorem tagWrong_c (t : TagD) (h1' : t.2.2.1.l.length ≤ 4611686018427387904) (h2' : t.2.2.2.1.l.length ≤ 4611686018427387904) : FnP Tryz.prog 103 [V t] (VBool (tagWrong t)) := by
  refine FnP_intro (by kernel_rfl) Tryz.func103 rfl Tryz.ntmps103 rfl (fun e => ?_)
  refine JSR ?_
  refine J_boxI (α := ((Arr 20 UInt8) × Int × Str × Str × Str)) (.tmp rfl) rfl ?_
  refine JQ (Q_assign At.bool) rfl ?_
  refine JNSR ?_
  refine JQ (Q_fieldAddrI F144_1 (by decide) (Lens.snd (Lens.fst Lens.id) (by first | rfl | (simp only [Enc.size, Nat.zero_add, Nat.mul_one, Nat.add_zero]; omega))) (.tmp rfl)) rfl ?_
  refine JQ (Q_load (.tmp rfl) T3) rfl ?_
  refine JQ (Q_call (word_c _) ⟨(.tmp rfl), trivial⟩) rfl ?_
  refine JQ (Q_eqls (.tmp rfl) At.str) rfl ?_
  refine JM rfl rfl ?_
  refine J_qstep (QG rfl rfl rfl rfl rfl opt_bool (fun hg => (by have hg0 := hg; simp only [BS, ne_eq] at hg0; exact Q_fieldAddrI F144_2 (by decide) (Lens.snd (Lens.snd (Lens.fst Lens.id) (by first | rfl | (simp only [Enc.size, Nat.zero_add, Nat.mul_one, Nat.add_zero]; omega))) (by first | rfl | (simp only [Enc.size, Nat.zero_add, Nat.mul_one, Nat.add_zero]; omega))) (.tmp rfl)))) rfl rfl ?_
  refine J_qstep (QG rfl rfl rfl rfl rfl opt_bool (fun hg => (by have hg0 := hg; simp only [BS, ne_eq] at hg0; exact Q_strOf (Q_load (At.opt rfl (by first | exact hg | (simp only [BS, ne_eq] at hg ⊢; first | exact hg | simp_all))) T9) (by (try dsimp only) <;> rfl)))) rfl rfl ?_
  refine J_qstep (QG rfl rfl rfl rfl rfl opt_bool (fun hg => (by have hg0 := hg; simp only [BS, ne_eq] at hg0; exact Q_call (text_c _ _ h1') ⟨(At.opt rfl (by first | exact hg | (simp only [BS, ne_eq] at hg ⊢; first | exact hg | simp_all))), At.int, trivial⟩))) rfl rfl ?_
  refine J_qstep (QG rfl rfl rfl rfl rfl opt_bool (fun hg => (by have hg0 := hg; simp only [BS, ne_eq] at hg0; exact Q_not (At.opt rfl (by first | exact hg | (simp only [BS, ne_eq] at hg ⊢; first | exact hg | simp_all)))))) rfl rfl ?_
  refine JQ (Q_orB (.tmp rfl) (fun hb => At.opt rfl (by simp only [BS, ne_eq] at hb ⊢; first | exact hb | simp_all))) rfl ?_
  refine JM rfl rfl ?_
  refine J_qstep (QG rfl rfl rfl rfl rfl opt_bool (fun hg => (by have hg0 := hg; simp only [BS, ne_eq] at hg0; exact Q_fieldAddrI F144_3 (by decide) (Lens.snd (Lens.snd (Lens.snd (Lens.fst Lens.id) (by first | rfl | (simp only [Enc.size, Nat.zero_add, Nat.mul_one, Nat.add_zero]; omega))) (by first | rfl | (simp only [Enc.size, Nat.zero_add, Nat.mul_one, Nat.add_zero]; omega))) (by first | rfl | (simp only [Enc.size, Nat.zero_add, Nat.mul_one, Nat.add_zero]; omega))) (.tmp rfl)))) rfl rfl ?_
  refine J_qstep (QG rfl rfl rfl rfl rfl opt_bool (fun hg => (by have hg0 := hg; simp only [BS, ne_eq] at hg0; exact Q_strOf (Q_load (At.opt rfl (by first | exact hg | (simp only [BS, ne_eq] at hg ⊢; first | exact hg | simp_all))) T9) (by (try dsimp only) <;> rfl)))) rfl rfl ?_
  refine J_qstep (QG rfl rfl rfl rfl rfl opt_bool (fun hg => (by have hg0 := hg; simp only [BS, ne_eq] at hg0; exact Q_call (text_c _ _ h2') ⟨(At.opt rfl (by first | exact hg | (simp only [BS, ne_eq] at hg ⊢; first | exact hg | simp_all))), At.int, trivial⟩))) rfl rfl ?_
  refine J_qstep (QG rfl rfl rfl rfl rfl opt_bool (fun hg => (by have hg0 := hg; simp only [BS, ne_eq] at hg0; exact Q_not (At.opt rfl (by first | exact hg | (simp only [BS, ne_eq] at hg ⊢; first | exact hg | simp_all)))))) rfl rfl ?_
  refine JQ (Q_orB (.tmp rfl) (fun hb => At.opt rfl (by simp only [BS, ne_eq] at hb ⊢; first | exact hb | simp_all))) rfl ?_
  refine JA rfl rfl ?_
  refine JN ?_
  refine J_retc ?_
  exact J_ret1 rfl (ResAt.tmp rfl) () trivial Split.nil (imp_eq (vbool_eq (by simp [tagWrong])))
abbrev RS := Bs × Bool
def mustS (st : RS) (f : Bs) : RS := ((nextB st.1 f).2.2, st.2 || !(nextB st.1 f).2.1)
def idS (st : RS) (q : Bs) : RS := (st.1, st.2 || decide ((parseB q).2 ≠ 0))
def emptyS (st : RS) : RS := ((nextB st.1 []).2.2, (st.2 || !(nextB st.1 []).2.1) || decide ((nextB st.1 []).1 ≠ []))
def bObject : Bs := [111, 98, 106, 101, 99, 116, 32]
def bType : Bs := [116, 121, 112, 101, 32]
def bTag : Bs := [116, 97, 103, 32]
def bTagger : Bs := [116, 97, 103, 103, 101, 114, 32]
def tS0 (b : Bs) : RS := (b, false)
def tS1 (b : Bs) : RS := mustS (tS0 b) bObject
def tS2 (b : Bs) : RS := idS (tS1 b) (nextB (tS0 b).1 bObject).1
def tS3 (b : Bs) : RS := mustS (tS2 b) bType
def tS4 (b : Bs) : RS := mustS (tS3 b) bTag
def tS5 (b : Bs) : RS := mustS (tS4 b) bTagger
def tS6 (b : Bs) : RS := emptyS (tS5 b)
def tagT (b : Bs) : TagD := ((parseB (nextB (tS0 b).1 bObject).1).1, (kindB (nextB (tS2 b).1 bType).1).1, ⟨(nextB (tS3 b).1 bTag).1⟩, ⟨(nextB (tS4 b).1 bTagger).1⟩, ⟨(tS6 b).1⟩)
def dtagB (b : Bs) : TagD × Int := if 16384 < b.length then (GoZero.z, 5) else if ((tS6 b).2 || tagWrong (tagT b)) = true then (GoZero.z, 2) else (tagT b, 0)
theorem dtag_long {b : Bs} (h : 16384 < b.length) : dtagB b = (GoZero.z, 5) := if_pos h
theorem dtag_bad {b : Bs} (h : ¬ 16384 < b.length) (h2 : ((tS6 b).2 || tagWrong (tagT b)) = true) : dtagB b = (GoZero.z, 2) := by unfold dtagB; rw [if_neg h, if_pos h2]
theorem dtag_ok {b : Bs} (h : ¬ 16384 < b.length) (h2 : ((tS6 b).2 || tagWrong (tagT b)) = false) : dtagB b = (tagT b, 0) := by unfold dtagB; rw [if_neg h, if_neg (by rw [h2]; simp)]
theorem tag_lens {b : Bs} (h : b.length ≤ 16384) : (tagT b).2.2.1.l.length ≤ 4611686018427387904 ∧ (tagT b).2.2.2.1.l.length ≤ 4611686018427387904 :=
  ⟨Nat.le_trans (nextB_len (tS3 b).1 bTag).1 (Nat.le_trans (nextB_len (tS2 b).1 bType).2 (Nat.le_trans (nextB_len (tS0 b).1 bObject).2 (by show b.length ≤ _; omega))),
   Nat.le_trans (nextB_len (tS4 b).1 bTagger).1 (Nat.le_trans (nextB_len (tS3 b).1 bTag).2 (Nat.le_trans (nextB_len (tS2 b).1 bType).2 (Nat.le_trans (nextB_len (tS0 b).1 bObject).2 (by show b.length ≤ _; omega))))⟩
attribute [local irreducible] nextB parseB kindB tagWrong
theorem dtag_c (b : Bytes) : FnP Tryz.prog 75 [Sl b] (VTup [V (dtagB b).1, VInt .i64 (dtagB b).2]) := by
  refine FnP_intro (by kernel_rfl) Tryz.func75 rfl Tryz.ntmps75 rfl (fun e => ?_)
  refine J_lenLe (t := 0) rfl (fun hl0 => ?_)
  refine JSR ?_
  refine J_alloc Z144 rfl (fun b2 => ?_)
  refine JQ (Q_assign At.int) rfl ?_
  refine JNSSR ?_
  refine JM rfl rfl ?_
  refine JQ (Q_len Tryz.underlying23 rfl (.tmp rfl)) rfl ?_
  refine JQ (Q_gtr (.tmp rfl) At.int) rfl ?_
  refine JN ?_
  refine J_cond (.tmp rfl) (fun h0 => ?_) (fun h0 => ?_)
  · try simp only [BS, ne_eq] at h0
    refine JSR ?_
    refine JQ (Q_build Z144 T144.agg (by kernel_rfl) BP.nil) rfl ?_
    refine J_store (.tmp rfl) (.tmp rfl) (by (try dsimp only) <;> rfl) (by repeat first | exact R1 | apply RT) Lens.id T144.size ?_
    refine JQ (Q_assign At.int) rfl ?_
    refine JN ?_
    refine J_retc ?_
    refine J_then_ret ?_
    exact J_ret2 rfl (ResAt.box rfl (by repeat first | exact R0 | apply RT) T144) (ResAt.tmp rfl) () trivial Split.nil (imp_eq (by rw [dtag_long (by first | omega | simp <;> omega)]))
  try simp only [BS, ne_eq] at h0
  have htl := tag_lens (b := b) (by first | omega | simp <;> omega)
  refine J_skip ?_
  refine J_then_normal ?_
  refine JSR ?_
  refine JM rfl rfl ?_
  refine JQ (Q_toStr Tryz.underlying23 Tryz.underlying5 Tryz.underlying9 (.tmp rfl)) rfl ?_
  refine JQ (Q_build Z128 T128.agg (by kernel_rfl) (BP.cons PL128_0 (Lens.fst Lens.id) (At.toStr (.tmp rfl)) BP.nil)) rfl ?_
  refine J_box (α := (Str × Bool)) (.tmp rfl) rfl (fun b13 => ?_)
  refine JA rfl rfl ?_
  refine JNSR ?_
  refine JM rfl rfl ?_
  refine JM rfl rfl ?_
  refine J_call (must_c _ _ _ ?_ ?_) ⟨(.tmp rfl), At.str, trivial⟩ (Split.take (by repeat first | exact R0 | apply RT) Split.nil) rfl (fun r16 hr16 => ?_)
  · repeat (first | omega | refine Nat.le_trans (nextB_len _ _).2 ?_ | refine Nat.le_trans (nextB_len _ _).1 ?_)
  · exact (by first | omega | simp <;> omega)
  refine J_call (id_c _ _ _ ?_) ⟨(.tmp rfl), (.tmp rfl), trivial⟩ (Split.take (by repeat first | exact R0 | apply RT) Split.nil) rfl (fun r17 hr17 => ?_)
  · repeat (first | omega | refine Nat.le_trans (nextB_len _ _).2 ?_ | refine Nat.le_trans (nextB_len _ _).1 ?_)
  refine JQ (Q_build Z144 T144.agg (by kernel_rfl) (BP.cons PL144_0 (Lens.fst Lens.id) (.tmp rfl) BP.nil)) rfl ?_
  refine J_alloc Z144 rfl (fun b5 => ?_)
  refine J_store (.tmp rfl) (.tmp rfl) (by (try dsimp only) <;> rfl) (by repeat first | exact R1 | apply RT) Lens.id T144.size ?_
  refine JNSR ?_
  refine JM rfl rfl ?_
  refine J_call (must_c _ _ _ ?_ ?_) ⟨(.tmp rfl), At.str, trivial⟩ (Split.take (by repeat first | exact R0 | apply RT) Split.nil) rfl (fun r21 hr21 => ?_)
  · repeat (first | omega | refine Nat.le_trans (nextB_len _ _).2 ?_ | refine Nat.le_trans (nextB_len _ _).1 ?_)
  · exact (by first | omega | simp <;> omega)
  refine JQ (Q_call (kindOf_c _) ⟨(.tmp rfl), trivial⟩) rfl ?_
  refine JM rfl rfl ?_
  refine JQ (Q_extract (.tmp rfl) rfl) rfl ?_
  refine JQ (Q_extract (.tmp rfl) rfl) rfl ?_
  refine JQ (Q_fieldAddrP F144_1 (by decide) (.tmp rfl)) rfl ?_
  refine J_store (.tmp rfl) (.tmp rfl) (by (try dsimp only) <;> rfl) (by repeat first | exact R1 | apply RT) (Lens.snd (Lens.fst Lens.id) (by first | rfl | (simp only [Enc.size, Nat.zero_add, Nat.mul_one, Nat.add_zero]; omega))) T3.size ?_
  refine JNSR ?_
  refine JM rfl rfl ?_
  refine J_call (must_c _ _ _ ?_ ?_) ⟨(.tmp rfl), At.str, trivial⟩ (Split.take (by repeat first | exact R0 | apply RT) Split.nil) rfl (fun r27 hr27 => ?_)
  · repeat (first | omega | refine Nat.le_trans (nextB_len _ _).2 ?_ | refine Nat.le_trans (nextB_len _ _).1 ?_)
  · exact (by first | omega | simp <;> omega)
  refine JM rfl rfl ?_
  refine J_call (must_c _ _ _ ?_ ?_) ⟨(.tmp rfl), At.str, trivial⟩ (Split.take (by repeat first | exact R0 | apply RT) Split.nil) rfl (fun r29 hr29 => ?_)
  · repeat (first | omega | refine Nat.le_trans (nextB_len _ _).2 ?_ | refine Nat.le_trans (nextB_len _ _).1 ?_)
  · exact (by first | omega | simp <;> omega)
  refine JQ (Q_fieldAddrP F144_2 (by decide) (.tmp rfl)) rfl ?_
  refine J_store (.tmp rfl) (At.toStr (.tmp rfl)) (by (try dsimp only) <;> rfl) (by repeat first | exact R1 | apply RT) (Lens.snd (Lens.snd (Lens.fst Lens.id) (by first | rfl | (simp only [Enc.size, Nat.zero_add, Nat.mul_one, Nat.add_zero]; omega))) (by first | rfl | (simp only [Enc.size, Nat.zero_add, Nat.mul_one, Nat.add_zero]; omega))) T9.size ?_
  refine JQ (Q_fieldAddrP F144_3 (by decide) (.tmp rfl)) rfl ?_
  refine J_store (.tmp rfl) (At.toStr (.tmp rfl)) (by (try dsimp only) <;> rfl) (by repeat first | exact R1 | apply RT) (Lens.snd (Lens.snd (Lens.snd (Lens.fst Lens.id) (by first | rfl | (simp only [Enc.size, Nat.zero_add, Nat.mul_one, Nat.add_zero]; omega))) (by first | rfl | (simp only [Enc.size, Nat.zero_add, Nat.mul_one, Nat.add_zero]; omega))) (by first | rfl | (simp only [Enc.size, Nat.zero_add, Nat.mul_one, Nat.add_zero]; omega))) T9.size ?_
  refine JNSR ?_
  refine JM rfl rfl ?_
  refine J_call (empty_c _ _ ?_) ⟨(.tmp rfl), trivial⟩ (Split.take (by repeat first | exact R0 | apply RT) Split.nil) rfl (fun r33 hr33 => ?_)
  · repeat (first | omega | refine Nat.le_trans (nextB_len _ _).2 ?_ | refine Nat.le_trans (nextB_len _ _).1 ?_)
  refine JNSR ?_
  refine JM rfl rfl ?_
  refine JQ (Q_nilChkP (.tmp rfl)) rfl ?_
  refine JQ (Q_fieldAddrP F128_0 (by decide) (.tmp rfl)) rfl ?_
  refine JQ (Q_strOf (Q_loadB (.tmp rfl) (by repeat first | exact R0 | apply RT) (Lens.fst Lens.id) T9 (by (try dsimp only) <;> rfl)) (by (try dsimp only) <;> rfl)) rfl ?_
  refine JQ (Q_fieldAddrP F144_4 (by decide) (.tmp rfl)) rfl ?_
  refine J_store (.tmp rfl) (At.toStr (.tmp rfl)) (by (try dsimp only) <;> rfl) (by repeat first | exact R1 | apply RT) (Lens.snd (Lens.snd (Lens.snd (Lens.snd Lens.id (by first | rfl | (simp only [Enc.size, Nat.zero_add, Nat.mul_one, Nat.add_zero]; omega))) (by first | rfl | (simp only [Enc.size, Nat.zero_add, Nat.mul_one, Nat.add_zero]; omega))) (by first | rfl | (simp only [Enc.size, Nat.zero_add, Nat.mul_one, Nat.add_zero]; omega))) (by first | rfl | (simp only [Enc.size, Nat.zero_add, Nat.mul_one, Nat.add_zero]; omega))) T9.size ?_
  refine JNSSR ?_
  refine JM rfl rfl ?_
  refine JQ (Q_nilChkP (.tmp rfl)) rfl ?_
  refine JQ (Q_fieldAddrP F128_1 (by decide) (.tmp rfl)) rfl ?_
  refine JQ (Q_loadB (.tmp rfl) (by repeat first | exact R0 | apply RT) (Lens.snd Lens.id (by first | rfl | (simp only [Enc.size, Nat.zero_add, Nat.mul_one, Nat.add_zero]; omega))) T4 (by (try dsimp only) <;> rfl)) rfl ?_
  refine JM rfl rfl ?_
  refine J_qstep (QG rfl rfl rfl rfl rfl opt_bool (fun hg => (by have hg0 := hg; simp only [BS, ne_eq] at hg0; exact Q_loadB (.tmp rfl) (by repeat first | exact R0 | apply RT) Lens.id T144 (by (try dsimp only) <;> rfl)))) rfl rfl ?_
  refine J_qstep (QG rfl rfl rfl rfl rfl opt_bool (fun hg => (by have hg0 := hg; simp only [BS, ne_eq] at hg0; exact Q_call (tagWrong_c (tagT b) htl.1 htl.2) ⟨(At.opt rfl (by first | exact hg | (simp only [BS, ne_eq] at hg ⊢; first | exact hg | simp_all))), trivial⟩))) rfl rfl ?_
  refine JQ (Q_orB (.tmp rfl) (fun hb => At.opt rfl (by simp only [BS, ne_eq] at hb ⊢; first | exact hb | simp_all))) rfl ?_
  refine JN ?_
  refine J_cond (.tmp rfl) (fun h1 => ?_) (fun h1 => ?_)
  · skip
    refine JSR ?_
    refine JQ (Q_build Z144 T144.agg (by kernel_rfl) BP.nil) rfl ?_
    refine J_store (.tmp rfl) (.tmp rfl) (by (try dsimp only) <;> rfl) (by repeat first | exact R1 | apply RT) Lens.id T144.size ?_
    refine JQ (Q_assign At.int) rfl ?_
    refine JN ?_
    refine J_retc ?_
    refine J_then_ret ?_
    exact J_ret2 rfl (ResAt.box rfl (by repeat first | exact R0 | apply RT) T144) (ResAt.tmp rfl) () trivial Split.nil (imp_eq (by rw [dtag_bad (by first | omega | simp <;> omega) h1]))
  skip
  refine J_skip ?_
  refine J_then_normal ?_
  refine JSR ?_
  refine JQ (Q_loadB (.tmp rfl) (by repeat first | exact R0 | apply RT) Lens.id T144 (by (try dsimp only) <;> rfl)) rfl ?_
  refine J_store (.tmp rfl) (.tmp rfl) (by (try dsimp only) <;> rfl) (by repeat first | exact R1 | apply RT) Lens.id T144.size ?_
  refine JQ (Q_assign At.int) rfl ?_
  refine JN ?_
  refine J_retc ?_
  exact J_ret2 rfl (ResAt.box rfl (by repeat first | exact R0 | apply RT) T144) (ResAt.tmp rfl) () trivial Split.nil (imp_eq (by rw [dtag_ok (by first | omega | simp <;> omega) h1]; rfl))
end Go.Sep
namespace Go.Sep
open Go Go.Proofs
open Enc (V)
attribute [local irreducible] Quiet QStep J At FnX Fn FnP Repl Split Has Post Back GoZ
def edgesT (l : List Ent) : List Oid := (l.filter fun e => decide (e.1 ≠ 57344)).map (·.2.2)
theorem edgesT_s (l : List Ent) (k : Nat) (h : k < l.length) : edgesT (l.take (k + 1)) = if l[k].1 = 57344 then edgesT (l.take k) else edgesT (l.take k) ++ [l[k].2.2] := by
  unfold edgesT
  rw [List.take_succ_eq_append_getElem h, List.filter_append, List.map_append]
  by_cases hc : l[k].1 = 57344
  · simp [hc]
  · simp [hc]
theorem tagEdges_c (b : Bytes) : FnP Tryz.prog 112 [Sl b] (VTup [Sl [(dtagB b).1.1], VInt .i64 (dtagB b).2]) := by
  refine FnP_intro (by kernel_rfl) Tryz.func112 rfl Tryz.ntmps112 rfl (fun e => ?_)
  refine JSR ?_
  refine JQ (Q_assign At.const) rfl ?_
  refine JQ (Q_assign At.int) rfl ?_
  refine JNSR ?_
  refine JM rfl rfl ?_
  refine JQ (Q_call (dtag_c _) ⟨(.tmp rfl), trivial⟩) rfl ?_
  refine JM rfl rfl ?_
  refine JQ (Q_extract (.tmp rfl) rfl) rfl ?_
  refine JQ (Q_extract (.tmp rfl) rfl) rfl ?_
  refine J_alloc Z144 rfl (fun b4 => ?_)
  refine J_store (.tmp rfl) (.tmp rfl) (by (try dsimp only) <;> rfl) (by repeat first | exact R1 | apply RT) Lens.id T144.size ?_
  refine J_freezeB (sl := 4) (by repeat first | exact R0 | apply RT) rfl ?_
  refine JA rfl rfl ?_
  refine JNSR ?_
  refine JQ (Q_fieldAddrI F144_0 (by decide) (Lens.fst Lens.id) (.tmp rfl)) rfl ?_
  refine JQ (Q_load (.tmp rfl) T38) rfl ?_
  refine JQ (Q_buildSlice (α := (Arr 20 UInt8)) E38 Tryz.underlying29 [.tmp 12] [_] rfl rfl ⟨(.tmp rfl), trivial⟩ (Nat.le_of_ble_eq_true rfl)) rfl ?_
  refine JM rfl rfl ?_
  refine JA rfl rfl ?_
  refine JA rfl rfl ?_
  refine JN ?_
  refine J_retc ?_
  exact J_ret2 rfl (ResAt.tmp rfl) (ResAt.tmp rfl) () trivial Split.nil imp_refl
theorem dtreeB_len (b : Bs) : (dtreeB b).1.length ≤ 512 := by
  unfold dtreeB
  split
  · simp
  · split
    · simp
    · split
      · split
        · simp
        · simp; omega
      · simp
theorem edgesT_len (l : List Ent) : (edgesT l).length ≤ l.length := by unfold edgesT; rw [List.length_map]; exact List.length_filter_le _ _
theorem treeEdges_c (b : Bytes) : FnP Tryz.prog 110 [Sl b] (VTup [Sl (edgesT (dtreeB b).1), VInt .i64 (dtreeB b).2]) := by
  have hl := dtreeB_len b
  refine FnP_intro (by kernel_rfl) Tryz.func110 rfl Tryz.ntmps110 rfl (fun e => ?_)
  refine JSR ?_
  refine JQ (Q_assign At.const) rfl ?_
  refine JQ (Q_assign At.int) rfl ?_
  refine JNSR ?_
  refine JM rfl rfl ?_
  refine JQ (Q_call (dtree_c _) ⟨(.tmp rfl), trivial⟩) rfl ?_
  refine JM rfl rfl ?_
  refine JQ (Q_extract (.tmp rfl) rfl) rfl ?_
  refine JQ (Q_extract (.tmp rfl) rfl) rfl ?_
  refine JA rfl rfl ?_
  refine JA rfl rfl ?_
  refine JNSR ?_
  refine JQ (Q_assign At.const) rfl ?_
  refine JNSSR ?_
  refine JM rfl rfl ?_
  refine JQ (Q_len Tryz.underlying140 rfl (.tmp rfl)) rfl ?_
  refine JQ (Q_move At.int) rfl ?_
  refine JN ?_
  refine J_block ?_
  refine J_rowNil (el := 38) Oid ?_
  refine J_loopU (ι := Nat × Value) (fun q => match q with | (k, u) => k ≤ (dtreeB b).1.length) (fun q => match q with | (k, u) => [(16, VInt .i64 (k : Nat)), (6, Is u)]) [(2, _), (3, _), (5, _), (14, _), (15, _)] (fun q => match q with | (k, u) => [RowR 38 u (edgesT ((dtreeB b).1.take k))]) (fun q => match q with | (k, u) => (dtreeB b).1.length - k) ((0, .slice none 0 0)) (by first | omega | simp <;> omega) ⟨fe rfl (by first | rfl | exact vint_eq (by first | omega | simp <;> omega) | exact vsl_eq (by simp) | exact vstr_eq (by simp)), fe rfl (by first | rfl | exact vint_eq (by first | omega | simp <;> omega) | exact vsl_eq (by simp) | exact vstr_eq (by simp)), trivial⟩ ⟨rfl, rfl, rfl, rfl, rfl, trivial⟩ (Has.take (Repl.row (by repeat first | exact R0 | apply RT) (by rfl)) Has.nil) (fun q hq => ?_)
  obtain ⟨k, u⟩ := q
  try dsimp only at hq
  obtain hk := hq
  have hel := edgesT_len ((dtreeB b).1.take k)
  rw [List.length_take] at hel
  refine JSR ?_
  refine JQ (Q_lss (.tmp rfl) (.tmp rfl)) rfl ?_
  refine JN ?_
  refine J_seq ?_
  refine J_cond (.tmp rfl) (fun h0 => ?_) (fun h0 => ?_)
  · try simp only [BS, ne_eq] at h0
    refine J_skip ?_
    refine J_then_normal ?_
    refine J_seq ?_
    refine J_block ?_
    refine JSR ?_
    refine JQ (by first | exact Q_idxAddrN Tryz.underlying140 T180.size (.tmp rfl) (.tmp rfl) (by first | omega | simp <;> omega) | exact Q_idxAddr Tryz.underlying140 T180.size (.tmp rfl) (.tmp rfl) (by first | omega | simp <;> omega) (by first | omega | simp <;> omega)) rfl ?_
    refine JQ (Q_load (.tmp rfl) T180) rfl ?_
    refine J_alloc Z180 rfl (fun b8 => ?_)
    refine J_store (.tmp rfl) (.tmp rfl) (by (try dsimp only) <;> rfl) (by repeat first | exact R1 | apply RT) Lens.id T180.size ?_
    refine J_freezeB (sl := 8) (by repeat first | exact R0 | apply RT) rfl ?_
    refine JNSR ?_
    refine JQ (Q_fieldAddrI F180_0 (by decide) (Lens.fst Lens.id) (.tmp rfl)) rfl ?_
    refine JQ (Q_load (.tmp rfl) T3) rfl ?_
    refine JQ (Q_neq (.tmp rfl) At.int) rfl ?_
    refine JN ?_
    refine J_cond (.tmp rfl) (fun h1 => ?_) (fun h1 => ?_)
    · try simp only [BS, ne_eq] at h1
      refine J_region ?_
      refine JM rfl rfl ?_
      refine JQ (Q_fieldAddrI F180_2 (by decide) (Lens.snd (Lens.snd Lens.id (by first | rfl | (simp only [Enc.size, Nat.zero_add, Nat.mul_one, Nat.add_zero]; omega))) (by first | rfl | (simp only [Enc.size, Nat.zero_add, Nat.mul_one, Nat.add_zero]; omega))) (.tmp rfl)) rfl ?_
      refine JQ (Q_load (.tmp rfl) T38) rfl ?_
      refine JQ (Q_buildSlice (α := (Arr 20 UInt8)) E38 Tryz.underlying29 [.tmp 25] [_] rfl rfl ⟨(.tmp rfl), trivial⟩ (Nat.le_of_ble_eq_true rfl)) rfl ?_
      refine J_append (α := (Arr 20 UInt8)) E38 Tryz.underlying29 (.tmp rfl) (.tmp rfl) (by repeat first | exact R0 | apply RT) (by first | omega | (simp; omega)) (by first | (simp only [maxLen]; omega) | (simp [maxLen]; omega)) rfl (fun v27 => ?_)
      refine JA rfl rfl ?_
      refine J_nil ?_
      refine J_blk_normal ?_
      refine J_then_normal ?_
      refine J_region ?_
      refine JQ (Q_addi (.tmp rfl) At.int (by first | omega | simp <;> omega) (by first | omega | simp <;> omega)) rfl ?_
      refine JM rfl rfl ?_
      refine JN ?_
      refine J_back ((k + 1, v27)) ?_ ?_ ?_ ?_
      · exact ⟨by omega, by simp only; omega⟩
      · exact ⟨fe rfl (by first | rfl | exact vint_eq (by first | omega | simp <;> omega) | exact vsl_eq (by simp) | exact vstr_eq (by simp)), fe rfl (by first | rfl | exact vint_eq (by first | omega | simp <;> omega) | exact vsl_eq (by simp) | exact vstr_eq (by simp)), trivial⟩
      · exact ⟨rfl, rfl, rfl, rfl, rfl, trivial⟩
      · exact (Has.take (Repl.row (by repeat first | exact R0 | apply RT) (by rw [edgesT_s _ _ (by first | omega | simp <;> omega), if_neg h1])) Has.nil)
    try simp only [BS, ne_eq] at h1
    refine J_skip ?_
    refine J_blk_normal ?_
    refine J_then_normal ?_
    refine J_region ?_
    refine JQ (Q_addi (.tmp rfl) At.int (by first | omega | simp <;> omega) (by first | omega | simp <;> omega)) rfl ?_
    refine JM rfl rfl ?_
    refine JN ?_
    refine J_back ((k + 1, u)) ?_ ?_ ?_ ?_
    · exact ⟨by omega, by simp only; omega⟩
    · exact ⟨fe rfl (by first | rfl | exact vint_eq (by first | omega | simp <;> omega) | exact vsl_eq (by simp) | exact vstr_eq (by simp)), fe rfl (by first | rfl | exact vint_eq (by first | omega | simp <;> omega) | exact vsl_eq (by simp) | exact vstr_eq (by simp)), trivial⟩
    · exact ⟨rfl, rfl, rfl, rfl, rfl, trivial⟩
    · exact (Has.take (Repl.row (by repeat first | exact R0 | apply RT) (by rw [edgesT_s _ _ (by first | omega | simp <;> omega), if_pos h1])) Has.nil)
  try simp only [BS, ne_eq] at h0
  refine J_exit ?_
  refine J_then_exit ?_
  refine J_then_exit ?_
  refine J_blk_out ?_
  refine J_then_normal ?_
  refine JSR ?_
  refine J_freezeR (sl := 6) (by repeat first | exact R0 | apply RT) rfl ?_
  obtain rfl : k = (dtreeB b).1.length := (by first | omega | simp <;> omega)
  refine JM rfl rfl ?_
  refine JM rfl rfl ?_
  refine JA rfl rfl ?_
  refine JA rfl rfl ?_
  refine JN ?_
  refine J_retc ?_
  exact J_ret2 rfl (ResAt.tmp rfl) (ResAt.tmp rfl) () trivial Split.nil (imp_eq (by rw [List.take_length]))
end Go.Sep
namespace Go.Sep
open Go Go.Proofs
open Enc (V)
attribute [local irreducible] Quiet QStep J At FnX Fn FnP Repl Split Has Post Back GoZ
theorem rWord_c (k : Int) : FnP Tryz.prog 82 [VInt .i64 k] (VStr (wordB k)) := by
  refine FnP_intro (by kernel_rfl) Tryz.func82 rfl Tryz.ntmps82 rfl (fun e => ?_)
  refine JSR ?_
  refine JQ (Q_assign At.str) rfl ?_
  refine JNSSR ?_
  refine JM rfl rfl ?_
  refine JN ?_
  refine J_block ?_
  refine JSR ?_
  refine JQ (Q_eql (.tmp rfl) At.int) rfl ?_
  refine JA rfl rfl ?_
  refine JN ?_
  refine J_cond (.tmp rfl) (fun h0 => ?_) (fun h0 => ?_)
  · try simp only [BS, ne_eq] at h0
    refine JSR ?_
    refine JQ (Q_assign At.str) rfl ?_
    refine JN ?_
    refine J_retc ?_
    refine J_blk_ret ?_
    refine J_then_ret ?_
    exact J_ret1 rfl (ResAt.tmp rfl) () trivial Split.nil (imp_eq (by simp_all [wordB]))
  try simp only [BS, ne_eq] at h0
  refine JSR ?_
  refine JQ (Q_eql (.tmp rfl) At.int) rfl ?_
  refine JA rfl rfl ?_
  refine JN ?_
  refine J_cond (.tmp rfl) (fun h1 => ?_) (fun h1 => ?_)
  · try simp only [BS, ne_eq] at h1
    refine JSR ?_
    refine JQ (Q_assign At.str) rfl ?_
    refine JN ?_
    refine J_retc ?_
    refine J_blk_ret ?_
    refine J_then_ret ?_
    exact J_ret1 rfl (ResAt.tmp rfl) () trivial Split.nil (imp_eq (by simp_all [wordB]))
  try simp only [BS, ne_eq] at h1
  refine JSR ?_
  refine JQ (Q_eql (.tmp rfl) At.int) rfl ?_
  refine JA rfl rfl ?_
  refine JN ?_
  refine J_cond (.tmp rfl) (fun h2 => ?_) (fun h2 => ?_)
  · try simp only [BS, ne_eq] at h2
    refine JSR ?_
    refine JQ (Q_assign At.str) rfl ?_
    refine JN ?_
    refine J_retc ?_
    refine J_blk_ret ?_
    refine J_then_ret ?_
    exact J_ret1 rfl (ResAt.tmp rfl) () trivial Split.nil (imp_eq (by simp_all [wordB]))
  try simp only [BS, ne_eq] at h2
  refine JSR ?_
  refine JQ (Q_eql (.tmp rfl) At.int) rfl ?_
  refine JA rfl rfl ?_
  refine JN ?_
  refine J_cond (.tmp rfl) (fun h3 => ?_) (fun h3 => ?_)
  · try simp only [BS, ne_eq] at h3
    refine JSR ?_
    refine JQ (Q_assign At.str) rfl ?_
    refine JN ?_
    refine J_retc ?_
    refine J_blk_ret ?_
    refine J_then_ret ?_
    exact J_ret1 rfl (ResAt.tmp rfl) () trivial Split.nil (imp_eq (by simp_all [wordB]))
  try simp only [BS, ne_eq] at h3
  refine J_skip ?_
  refine J_blk_normal ?_
  refine J_then_normal ?_
  refine JSR ?_
  refine JQ (Q_assign At.str) rfl ?_
  refine JN ?_
  refine J_retc ?_
  exact J_ret1 rfl (ResAt.tmp rfl) () trivial Split.nil (imp_eq (by simp_all [wordB]))
theorem rKindOf_c (s : Bytes) : FnP Tryz.prog 116 [VStr s] (VTup [VInt .i64 (kindB s).1, VBool (kindB s).2]) := by
  refine FnP_intro (by kernel_rfl) Tryz.func116 rfl Tryz.ntmps116 rfl (fun e => ?_)
  refine JSR ?_
  refine JQ (Q_assign At.int) rfl ?_
  refine JQ (Q_assign At.bool) rfl ?_
  refine JNSSR ?_
  refine JQ (Q_assign At.int) rfl ?_
  refine JN ?_
  refine J_block ?_
  refine J_loopU (ι := Nat) (fun k => 1 ≤ k ∧ k ≤ 5 ∧ ∀ j : Nat, 1 ≤ j → j < k → s ≠ wordB j) (fun k => [(4, VInt .i64 (k : Nat))]) [(0, _)] (fun k => []) (fun k => 5 - k) (1) ⟨by omega, by omega, by intros; omega⟩ ⟨fe rfl (by first | rfl | exact vint_eq (by first | omega | simp <;> omega) | exact vsl_eq (by simp) | exact vstr_eq (by simp)), trivial⟩ ⟨rfl, trivial⟩ Has.nil (fun k hq => ?_)
  obtain ⟨hk1, hk, hn⟩ := hq
  refine J_seq ?_
  refine JSR ?_
  refine JM rfl rfl ?_
  refine JQ (Q_leq (.tmp rfl) At.int) rfl ?_
  refine JN ?_
  refine J_cond (.tmp rfl) (fun h0 => ?_) (fun h0 => ?_)
  · try simp only [BS, ne_eq] at h0
    refine J_skip ?_
    refine J_then_normal ?_
    refine J_seq ?_
    refine J_block ?_
    refine JSR ?_
    refine JM rfl rfl ?_
    refine JQ (Q_call (rWord_c _) ⟨(.tmp rfl), trivial⟩) rfl ?_
    refine JM rfl rfl ?_
    refine JQ (Q_eqls (.tmp rfl) (.tmp rfl)) rfl ?_
    refine JN ?_
    refine J_cond (.tmp rfl) (fun h1 => ?_) (fun h1 => ?_)
    · try simp only [BS, ne_eq] at h1
      refine JSR ?_
      refine JM rfl rfl ?_
      refine JA rfl rfl ?_
      refine JQ (Q_assign At.bool) rfl ?_
      refine JN ?_
      refine J_retc ?_
      refine J_blk_ret ?_
      refine J_then_ret ?_
      refine J_then_ret ?_
      refine J_blk_ret ?_
      refine J_then_ret ?_
      exact J_ret2 rfl (ResAt.tmp rfl) (ResAt.tmp rfl) () trivial Split.nil (imp_eq (by have e : k = 1 ∨ k = 2 ∨ k = 3 ∨ k = 4 := (by first | omega | simp <;> omega); rcases e with rfl | rfl | rfl | rfl <;> subst h1 <;> rfl))
    try simp only [BS, ne_eq] at h1
    refine J_skip ?_
    refine J_blk_normal ?_
    refine J_then_normal ?_
    refine J_region ?_
    refine JM rfl rfl ?_
    refine JQ (Q_addi (.tmp rfl) At.int (by first | omega | simp <;> omega) (by first | omega | simp <;> omega)) rfl ?_
    refine JA rfl rfl ?_
    refine JN ?_
    refine J_back (k + 1) ?_ ?_ ?_ ?_
    · exact ⟨⟨by omega, by omega, by intro j h hj; by_cases e : j = k; (subst e; exact fun hc => h1 hc.symm); exact hn j h (by first | omega | simp <;> omega)⟩, by omega⟩
    · exact ⟨fe rfl (by first | rfl | exact vint_eq (by first | omega | simp <;> omega) | exact vsl_eq (by simp) | exact vstr_eq (by simp)), trivial⟩
    · exact ⟨rfl, trivial⟩
    · exact Has.nil
  try simp only [BS, ne_eq] at h0
  refine J_exit ?_
  refine J_then_exit ?_
  refine J_then_exit ?_
  refine J_blk_out ?_
  refine J_then_normal ?_
  refine JSR ?_
  refine JQ (Q_assign At.int) rfl ?_
  refine JQ (Q_assign At.bool) rfl ?_
  refine JN ?_
  refine J_retc ?_
  exact J_ret2 rfl (ResAt.tmp rfl) (ResAt.tmp rfl) () trivial Split.nil (imp_eq (by have a : s ≠ wordB 1 := hn 1 (by first | omega | simp <;> omega) (by first | omega | simp <;> omega); have b : s ≠ wordB 2 := hn 2 (by first | omega | simp <;> omega) (by first | omega | simp <;> omega); have c : s ≠ wordB 3 := hn 3 (by first | omega | simp <;> omega) (by first | omega | simp <;> omega); have d : s ≠ wordB 4 := hn 4 (by first | omega | simp <;> omega) (by first | omega | simp <;> omega); simp only [kindB]; rw [if_neg a, if_neg b, if_neg c, if_neg d]))
theorem rMode_c (m : Int) : FnP Tryz.prog 52 [VInt .i64 m] (VStr (modeB m)) := by
  refine FnP_intro (by kernel_rfl) Tryz.func52 rfl Tryz.ntmps52 rfl (fun e => ?_)
  refine JSR ?_
  refine JQ (Q_assign At.str) rfl ?_
  refine JNSSR ?_
  refine JM rfl rfl ?_
  refine JN ?_
  refine J_block ?_
  refine JSR ?_
  refine JQ (Q_eql (.tmp rfl) At.int) rfl ?_
  refine JA rfl rfl ?_
  refine JN ?_
  refine J_cond (.tmp rfl) (fun h0 => ?_) (fun h0 => ?_)
  · try simp only [BS, ne_eq] at h0
    refine JSR ?_
    refine JQ (Q_assign At.str) rfl ?_
    refine JN ?_
    refine J_retc ?_
    refine J_blk_ret ?_
    refine J_then_ret ?_
    exact J_ret1 rfl (ResAt.tmp rfl) () trivial Split.nil (imp_eq (by simp_all [modeB]))
  try simp only [BS, ne_eq] at h0
  refine JSR ?_
  refine JQ (Q_eql (.tmp rfl) At.int) rfl ?_
  refine JA rfl rfl ?_
  refine JN ?_
  refine J_cond (.tmp rfl) (fun h1 => ?_) (fun h1 => ?_)
  · try simp only [BS, ne_eq] at h1
    refine JSR ?_
    refine JQ (Q_assign At.str) rfl ?_
    refine JN ?_
    refine J_retc ?_
    refine J_blk_ret ?_
    refine J_then_ret ?_
    exact J_ret1 rfl (ResAt.tmp rfl) () trivial Split.nil (imp_eq (by simp_all [modeB]))
  try simp only [BS, ne_eq] at h1
  refine JSR ?_
  refine JQ (Q_eql (.tmp rfl) At.int) rfl ?_
  refine JA rfl rfl ?_
  refine JN ?_
  refine J_cond (.tmp rfl) (fun h2 => ?_) (fun h2 => ?_)
  · try simp only [BS, ne_eq] at h2
    refine JSR ?_
    refine JQ (Q_assign At.str) rfl ?_
    refine JN ?_
    refine J_retc ?_
    refine J_blk_ret ?_
    refine J_then_ret ?_
    exact J_ret1 rfl (ResAt.tmp rfl) () trivial Split.nil (imp_eq (by simp_all [modeB]))
  try simp only [BS, ne_eq] at h2
  refine JSR ?_
  refine JQ (Q_eql (.tmp rfl) At.int) rfl ?_
  refine JA rfl rfl ?_
  refine JN ?_
  refine J_cond (.tmp rfl) (fun h3 => ?_) (fun h3 => ?_)
  · try simp only [BS, ne_eq] at h3
    refine JSR ?_
    refine JQ (Q_assign At.str) rfl ?_
    refine JN ?_
    refine J_retc ?_
    refine J_blk_ret ?_
    refine J_then_ret ?_
    exact J_ret1 rfl (ResAt.tmp rfl) () trivial Split.nil (imp_eq (by simp_all [modeB]))
  try simp only [BS, ne_eq] at h3
  refine JSR ?_
  refine JQ (Q_eql (.tmp rfl) At.int) rfl ?_
  refine JA rfl rfl ?_
  refine JN ?_
  refine J_cond (.tmp rfl) (fun h4 => ?_) (fun h4 => ?_)
  · try simp only [BS, ne_eq] at h4
    refine JSR ?_
    refine JQ (Q_assign At.str) rfl ?_
    refine JN ?_
    refine J_retc ?_
    refine J_blk_ret ?_
    refine J_then_ret ?_
    exact J_ret1 rfl (ResAt.tmp rfl) () trivial Split.nil (imp_eq (by simp_all [modeB]))
  try simp only [BS, ne_eq] at h4
  refine J_skip ?_
  refine J_blk_normal ?_
  refine J_then_normal ?_
  refine JSR ?_
  refine JQ (Q_assign At.str) rfl ?_
  refine JN ?_
  refine J_retc ?_
  exact J_ret1 rfl (ResAt.tmp rfl) () trivial Split.nil (imp_eq (by simp_all [modeB]))
theorem rNl_c : FnP Tryz.prog 96 [] (VStr [10]) := by
  refine FnP_intro (by kernel_rfl) Tryz.func96 rfl Tryz.ntmps96 rfl (fun e => ?_)
  refine JSR ?_
  refine JQ (Q_assign At.str) rfl ?_
  refine JNSR ?_
  refine JQ (Q_buildSlice (α := UInt8) E5 Tryz.underlying23 [.const (.int .u8 10)] [_] rfl rfl ⟨(At.k8 (z := 10) (by decide)), trivial⟩ (Nat.le_of_ble_eq_true rfl)) rfl ?_
  refine JQ (Q_toStr Tryz.underlying23 Tryz.underlying5 Tryz.underlying9 (.tmp rfl)) rfl ?_
  refine JA rfl rfl ?_
  refine JN ?_
  refine J_retc ?_
  exact J_ret1 rfl (ResAt.tmp rfl) () trivial Split.nil imp_refl
theorem rKey_c (e : Ent) (h : e.2.1.l.length ≤ 1048576) : FnP Tryz.prog 109 [V e] (VStr (keyE e)) := by
  refine FnP_intro (by kernel_rfl) Tryz.func109 rfl Tryz.ntmps109 rfl (fun e => ?_)
  refine JSR ?_
  refine J_boxI (α := (Int × Str × (Arr 20 UInt8))) (.tmp rfl) rfl ?_
  refine JQ (Q_assign At.str) rfl ?_
  refine JNSSR ?_
  refine JQ (Q_fieldAddrI F81_0 (by decide) (Lens.fst Lens.id) (.tmp rfl)) rfl ?_
  refine JQ (Q_load (.tmp rfl) T3) rfl ?_
  refine JQ (Q_eql (.tmp rfl) At.int) rfl ?_
  refine JN ?_
  refine J_cond (.tmp rfl) (fun h0 => ?_) (fun h0 => ?_)
  · try simp only [BS, ne_eq] at h0
    refine JSR ?_
    refine JQ (Q_fieldAddrI F81_1 (by decide) (Lens.snd (Lens.fst Lens.id) (by first | rfl | (simp only [Enc.size, Nat.zero_add, Nat.mul_one, Nat.add_zero]; omega))) (.tmp rfl)) rfl ?_
    refine JQ (Q_strOf (Q_load (.tmp rfl) T9) (by (try dsimp only) <;> rfl)) rfl ?_
    refine JQ (Q_cat (.tmp rfl) At.str (Nat.le_trans (Nat.add_le_add_right h 1) (by decide))) rfl ?_
    refine JA rfl rfl ?_
    refine JN ?_
    refine J_retc ?_
    refine J_then_ret ?_
    exact J_ret1 rfl (ResAt.tmp rfl) () trivial Split.nil (imp_eq (by simp_all [keyE]))
  try simp only [BS, ne_eq] at h0
  refine J_skip ?_
  refine J_then_normal ?_
  refine JSR ?_
  refine JQ (Q_fieldAddrI F81_1 (by decide) (Lens.snd (Lens.fst Lens.id) (by first | rfl | (simp only [Enc.size, Nat.zero_add, Nat.mul_one, Nat.add_zero]; omega))) (.tmp rfl)) rfl ?_
  refine JQ (Q_strOf (Q_load (.tmp rfl) T9) (by (try dsimp only) <;> rfl)) rfl ?_
  refine JA rfl rfl ?_
  refine JN ?_
  refine J_retc ?_
  exact J_ret1 rfl (ResAt.tmp rfl) () trivial Split.nil (imp_eq (by simp_all [keyE]))
theorem rOrder_c (a b : Ent) (ha : a.2.1.l.length ≤ 1048576) (hb : b.2.1.l.length ≤ 1048576) : FnP Tryz.prog 78 [V a, V b] (VInt .i64 (cmpS (keyE a) (keyE b))) := by
  refine FnP_intro (by kernel_rfl) Tryz.func78 rfl Tryz.ntmps78 rfl (fun e => ?_)
  refine JSR ?_
  refine J_boxI (α := (Int × Str × (Arr 20 UInt8))) (.tmp rfl) rfl ?_
  refine J_boxI (α := (Int × Str × (Arr 20 UInt8))) (.tmp rfl) rfl ?_
  refine JQ (Q_assign At.int) rfl ?_
  refine JN ?_
  refine J_seq ?_
  refine J_block ?_
  refine J_seq ?_
  refine J_draw mix 6 [6, 7, 8, 9, 10, 5] [_, _, _, _, _, _] rfl rfl (by kernel_rfl) (by kernel_rfl) (by kernel_rfl) (by kernel_rfl) (by kernel_rfl) ⟨QS (Q_load (.tmp rfl) T81) rfl, QS (Q_call (rKey_c _ (by assumption)) ⟨(.tmp rfl), trivial⟩) rfl, QS (Q_load (.tmp rfl) T81) rfl, QS (Q_call (rKey_c _ (by assumption)) ⟨(.tmp rfl), trivial⟩) rfl, QS (Q_lsss (.tmp rfl) (.tmp rfl)) rfl, QS (Q_assign (.tmp rfl)) rfl, trivial⟩ ?_
  refine JN ?_
  refine J_cond (.tmp rfl) (fun h0 => ?_) (fun h0 => ?_)
  · try simp only [BS, ne_eq] at h0
    refine JSR ?_
    refine JQ (Q_assign At.int) rfl ?_
    refine JN ?_
    refine J_retc ?_
    refine J_blk_ret ?_
    refine J_then_ret ?_
    exact J_ret1 rfl (ResAt.tmp rfl) () trivial Split.nil (imp_eq (vint_eq (by simp_all [cmpS])))
  try simp only [BS, ne_eq] at h0
  refine J_seq ?_
  refine J_draw mix 6 [12, 13, 14, 15, 16, 11] [_, _, _, _, _, _] rfl rfl (by kernel_rfl) (by kernel_rfl) (by kernel_rfl) (by kernel_rfl) (by kernel_rfl) ⟨QS (Q_load (.tmp rfl) T81) rfl, QS (Q_call (rKey_c _ (by assumption)) ⟨(.tmp rfl), trivial⟩) rfl, QS (Q_load (.tmp rfl) T81) rfl, QS (Q_call (rKey_c _ (by assumption)) ⟨(.tmp rfl), trivial⟩) rfl, QS (Q_gtrs (.tmp rfl) (.tmp rfl)) rfl, QS (Q_assign (.tmp rfl)) rfl, trivial⟩ ?_
  refine JN ?_
  refine J_cond (.tmp rfl) (fun h1 => ?_) (fun h1 => ?_)
  · try simp only [BS, ne_eq] at h1
    refine JSR ?_
    refine JQ (Q_assign At.int) rfl ?_
    refine JN ?_
    refine J_retc ?_
    refine J_blk_ret ?_
    refine J_then_ret ?_
    exact J_ret1 rfl (ResAt.tmp rfl) () trivial Split.nil (imp_eq (vint_eq (by simp_all [cmpS])))
  try simp only [BS, ne_eq] at h1
  refine J_skip ?_
  refine J_blk_normal ?_
  refine J_then_normal ?_
  refine JSR ?_
  refine JQ (Q_assign At.int) rfl ?_
  refine JN ?_
  refine J_retc ?_
  exact J_ret1 rfl (ResAt.tmp rfl) () trivial Split.nil (imp_eq (vint_eq (by simp_all [cmpS])))
def digitR (c : UInt8) : Int := if (48 ≤ c.toNat ∧ c.toNat ≤ 57) then (c.toNat : Int) - 48 else if (97 ≤ c.toNat ∧ c.toNat ≤ 102) then (c.toNat : Int) - 97 + 10 else -1
end Go.Sep
namespace Go.Sep
open Go Go.Proofs
open Enc (V)
attribute [local irreducible] Quiet QStep J At FnX Fn FnP Repl Split Has Post Back GoZ
def decRest (m : Nat) : Bs := if m < 10 then [] else Lib.decDigits (m / 10)
theorem toU8_dec (m : Nat) : toU8 (48 + (m : Int) % 10) = UInt8.ofNat (48 + m % 10) := by
  unfold toU8
  congr 1
  omega
theorem dec_last (m : Nat) : Lib.decDigits m = decRest m ++ [toU8 (48 + (m : Int) % 10)] := by
  rw [toU8_dec, Lib.decDigits]
  unfold decRest
  split
  · rename_i h; rw [Nat.mod_eq_of_lt h]; rfl
  · rfl
theorem decRest_big {m : Nat} (h : ¬ m < 10) : decRest m = Lib.decDigits (m / 10) := if_neg h
theorem rDecimal_c (n : Nat) (hn : n ≤ 1048576) : FnP Tryz.prog 114 [VInt .i64 (n : Nat)] (VStr (Lib.decDigits n)) := by
  refine FnP_intro (by kernel_rfl) Tryz.func114 rfl Tryz.ntmps114 rfl (fun e => ?_)
  refine JSR ?_
  refine JQ (Q_assign At.str) rfl ?_
  refine JNSR ?_
  refine JM rfl rfl ?_
  refine JQ (Q_remi (.tmp rfl) At.int (by first | omega | simp <;> omega) (by first | omega | simp <;> omega)) rfl ?_
  refine JQ (Q_addi At.int (.tmp rfl) (by first | omega | simp <;> omega) (by first | omega | simp <;> omega)) rfl ?_
  refine JQ (Q_to8 (.tmp rfl) (by kernel_rfl) Tryz.underlying5) rfl ?_
  refine JQ (Q_buildSlice (α := UInt8) E5 Tryz.underlying23 [.tmp 7] [_] rfl rfl ⟨(.tmp rfl), trivial⟩ (Nat.le_of_ble_eq_true rfl)) rfl ?_
  refine JQ (Q_toStr Tryz.underlying23 Tryz.underlying5 Tryz.underlying9 (.tmp rfl)) rfl ?_
  refine JA rfl rfl ?_
  refine JN ?_
  refine J_seq ?_
  refine J_block ?_
  refine J_loopU (ι := Nat × Bytes) (fun q => match q with | (m, s) => m ≤ n ∧ s.length + m ≤ n + 1 ∧ Lib.decDigits n = decRest m ++ s) (fun q => match q with | (m, s) => [(0, VInt .i64 (m : Nat)), (3, VStr s)]) [(2, _)] (fun q => match q with | (m, s) => []) (fun q => match q with | (m, s) => m) ((n, [toU8 (48 + (n : Int) % 10)])) ⟨by omega, by simp only [List.length_cons, List.length_nil]; omega, dec_last n⟩ ⟨fe rfl (by first | rfl | exact vint_eq (by first | omega | simp <;> omega) | exact vsl_eq (by simp) | exact vstr_eq (by simp)), fe rfl (by first | rfl | exact vint_eq (by first | omega | simp <;> omega) | exact vsl_eq (by simp) | exact vstr_eq (by simp)), trivial⟩ ⟨rfl, trivial⟩ Has.nil (fun q hq => ?_)
  obtain ⟨m, s⟩ := q
  try dsimp only at hq
  obtain ⟨hm, hs, hd⟩ := hq
  refine J_seq ?_
  refine JSR ?_
  refine JM rfl rfl ?_
  refine JQ (Q_geq (.tmp rfl) At.int) rfl ?_
  refine JN ?_
  refine J_cond (.tmp rfl) (fun h0 => ?_) (fun h0 => ?_)
  · try simp only [BS, ne_eq] at h0
    refine J_skip ?_
    refine J_then_normal ?_
    refine J_block ?_
    refine JSR ?_
    refine JM rfl rfl ?_
    refine JQ (Q_quoi (.tmp rfl) At.int (by first | omega | simp <;> omega) (by first | omega | simp <;> omega) (by first | omega | simp <;> omega)) rfl ?_
    refine JA rfl rfl ?_
    refine JNR ?_
    refine JM rfl rfl ?_
    refine JQ (Q_remi (.tmp rfl) At.int (by first | omega | simp <;> omega) (by first | omega | simp <;> omega)) rfl ?_
    refine JQ (Q_addi At.int (.tmp rfl) (by first | omega | simp <;> omega) (by first | omega | simp <;> omega)) rfl ?_
    refine JQ (Q_to8 (.tmp rfl) (by kernel_rfl) Tryz.underlying5) rfl ?_
    refine JQ (Q_buildSlice (α := UInt8) E5 Tryz.underlying23 [.tmp 17] [_] rfl rfl ⟨(.tmp rfl), trivial⟩ (Nat.le_of_ble_eq_true rfl)) rfl ?_
    refine JQ (Q_toStr Tryz.underlying23 Tryz.underlying5 Tryz.underlying9 (.tmp rfl)) rfl ?_
    refine JM rfl rfl ?_
    refine JQ (Q_cat (.tmp rfl) (.tmp rfl) (by simp; omega)) rfl ?_
    refine JA rfl rfl ?_
    refine J_nil ?_
    refine J_blk_normal ?_
    refine J_then_normal ?_
    refine J_back ((m / 10, toU8 (48 + ((m / 10 : Nat) : Int) % 10) :: s)) ?_ ?_ ?_ ?_
    · exact ⟨⟨by omega, by simp only [List.length_cons]; omega, by rw [hd, decRest_big (by first | omega | simp <;> omega), dec_last (m / 10), List.append_assoc]; rfl⟩, by simp only; omega⟩
    · exact ⟨fe rfl (by exact vint_eq (by first | omega | simp <;> omega)), fe rfl (by exact vstr_eq (by rw [Int.natCast_ediv]; rfl)), trivial⟩
    · exact ⟨rfl, trivial⟩
    · exact Has.nil
  try simp only [BS, ne_eq] at h0
  refine J_exit ?_
  refine J_then_exit ?_
  refine J_then_exit ?_
  refine J_blk_out ?_
  refine J_then_normal ?_
  refine JSR ?_
  refine JM rfl rfl ?_
  refine JA rfl rfl ?_
  refine JN ?_
  refine J_retc ?_
  exact J_ret1 rfl (ResAt.tmp rfl) () trivial Split.nil (imp_eq (by rw [hd]; unfold decRest; rw [if_pos (by first | omega | simp <;> omega)]; rfl))
end Go.Sep
namespace Go.Sep
open Go Go.Proofs
open Enc (V)
attribute [local irreducible] Quiet QStep J At FnX Fn FnP Repl Split Has Post Back GoZ
theorem rLeft_c (x : UInt32) (n : Nat) (hn : n ≤ 32) : FnP Tryz.prog 145 [VInt .u32 (x.toNat : Nat), VInt .u64 (n : Nat)] (VInt .u32 ((rotl x n).toNat : Nat)) := by
  refine FnP_intro (by kernel_rfl) Tryz.func145 rfl Tryz.ntmps145 rfl (fun e => ?_)
  refine JSR ?_
  refine JQ (Q_assign (At.k32 (z := 0) (by decide))) rfl ?_
  refine JNSR ?_
  refine JM rfl rfl ?_
  refine JM rfl rfl ?_
  refine JQ (Q_shl32 (.tmp rfl) (.tmp rfl) (by first | omega | simp <;> omega)) rfl ?_
  refine JM rfl rfl ?_
  refine JM rfl rfl ?_
  refine JQ (Q_sub At.int (.tmp rfl)) rfl ?_
  refine JQ (Q_shr32 (c := 32 - n) (.tmp rfl) (At.eq (.tmp rfl) (vint_eq (by rw [wrap_k64]; omega))) (by first | omega | simp <;> omega)) rfl ?_
  refine JQ (Q_or32 (.tmp rfl) (.tmp rfl)) rfl ?_
  refine JA rfl rfl ?_
  refine JN ?_
  refine J_retc ?_
  exact J_ret1 rfl (ResAt.tmp rfl) () trivial Split.nil imp_refl
theorem bytesLess_same (l : Bs) : Op.bytesLess l l = false := by
  induction l with
  | nil => rfl
  | cons a l ih => simp [Op.bytesLess, ih]
theorem bytesLess_at {a b : Bs} : ∀ (k : Nat) (ha : k < a.length) (hb : k < b.length), a.take k = b.take k → a[k] ≠ b[k] → Op.bytesLess a b = decide (a[k] < b[k]) := by
  induction a generalizing b with
  | nil => intro k ha; simp at ha
  | cons x a ih =>
    intro k ha hb ht hne
    cases b with
    | nil => simp at hb
    | cons y b =>
      cases k with
      | zero =>
        simp at hne ⊢
        simp [Op.bytesLess, hne]
      | succ k =>
        have ha2 : k < a.length := by simpa using ha
        have hb2 : k < b.length := by simpa using hb
        simp only [List.take_succ_cons, List.cons.injEq] at ht
        obtain ⟨rfl, ht⟩ := ht
        simp only [List.getElem_cons_succ] at hne ⊢
        have := ih k ha2 hb2 ht hne
        simp [Op.bytesLess, this]
theorem rLess_c (a b : Oid) : FnP Tryz.prog 49 [V a, V b] (VBool (Op.bytesLess a.l b.l)) := by
  have ha := a.h
  have hb := b.h
  refine FnP_intro (by kernel_rfl) Tryz.func49 rfl Tryz.ntmps49 rfl (fun e => ?_)
  refine JSR ?_
  refine J_boxI (α := (Arr 20 UInt8)) (.tmp rfl) rfl ?_
  refine J_boxI (α := (Arr 20 UInt8)) (.tmp rfl) rfl ?_
  refine JQ (Q_assign At.bool) rfl ?_
  refine JNSSR ?_
  refine JQ (Q_assign At.int) rfl ?_
  refine JN ?_
  refine J_block ?_
  refine J_loopU (ι := Nat) (fun k => k ≤ 20 ∧ a.l.take k = b.l.take k) (fun k => [(5, VInt .i64 (k : Nat))]) [(2, _), (3, _)] (fun k => []) (fun k => 20 - k) (0) ⟨by omega, rfl⟩ ⟨fe rfl (by first | rfl | exact vint_eq (by first | omega | simp <;> omega) | exact vsl_eq (by simp) | exact vstr_eq (by simp)), trivial⟩ ⟨rfl, rfl, trivial⟩ Has.nil (fun k hq => ?_)
  obtain ⟨hk, ht⟩ := hq
  refine J_seq ?_
  refine JSR ?_
  refine JM rfl rfl ?_
  refine JQ (Q_lss (.tmp rfl) At.int) rfl ?_
  refine JN ?_
  refine J_cond (.tmp rfl) (fun h0 => ?_) (fun h0 => ?_)
  · try simp only [BS, ne_eq] at h0
    refine J_skip ?_
    refine J_then_normal ?_
    refine J_seq ?_
    refine J_block ?_
    refine J_seq ?_
    refine J_draw mix 7 [10, 11, 12, 13, 14, 15, 16] [_, _, _, _, _, _, _] rfl rfl (by kernel_rfl) (by kernel_rfl) (by kernel_rfl) (by kernel_rfl) (by kernel_rfl) ⟨QS (Q_move (.tmp rfl)) rfl, QS (Q_idxAddrAI Tryz.underlying37 T5.size (.tmp rfl) (.tmp rfl) (by first | omega | simp <;> omega) (by first | omega | simp <;> omega)) rfl, QS (Q_load (.tmp rfl) T5) rfl, QS (Q_move (.tmp rfl)) rfl, QS (Q_idxAddrAI Tryz.underlying37 T5.size (.tmp rfl) (.tmp rfl) (by first | omega | simp <;> omega) (by first | omega | simp <;> omega)) rfl, QS (Q_load (.tmp rfl) T5) rfl, QS (Q_neq8 (.tmp rfl) (.tmp rfl)) rfl, trivial⟩ ?_
    refine JN ?_
    refine J_cond (.tmp rfl) (fun h1 => ?_) (fun h1 => ?_)
    · try simp only [BS, ne_eq] at h1
      refine J_seq ?_
      refine J_draw mix 8 [17, 18, 19, 20, 21, 22, 23, 4] [_, _, _, _, _, _, _, _] rfl rfl (by kernel_rfl) (by kernel_rfl) (by kernel_rfl) (by kernel_rfl) (by kernel_rfl) ⟨QS (Q_move (.tmp rfl)) rfl, QS (Q_idxAddrAI Tryz.underlying37 T5.size (.tmp rfl) (.tmp rfl) (by first | omega | simp <;> omega) (by first | omega | simp <;> omega)) rfl, QS (Q_load (.tmp rfl) T5) rfl, QS (Q_move (.tmp rfl)) rfl, QS (Q_idxAddrAI Tryz.underlying37 T5.size (.tmp rfl) (.tmp rfl) (by first | omega | simp <;> omega) (by first | omega | simp <;> omega)) rfl, QS (Q_load (.tmp rfl) T5) rfl, QS (Q_lss (.tmp rfl) (.tmp rfl)) rfl, QS (Q_assign (.tmp rfl)) rfl, trivial⟩ ?_
      refine JN ?_
      refine J_retc ?_
      refine J_blk_ret ?_
      refine J_then_ret ?_
      refine J_then_ret ?_
      refine J_blk_ret ?_
      refine J_then_ret ?_
      exact J_ret1 rfl (ResAt.tmp rfl) () trivial Split.nil (imp_eq (vbool_eq (by rw [bytesLess_at k (by first | omega | simp <;> omega) (by first | omega | simp <;> omega) ht h1]; congr 1; exact propext (by rw [UInt8.lt_iff_toNat_lt]; exact Int.ofNat_lt))))
    try simp only [BS, ne_eq] at h1
    refine J_skip ?_
    refine J_blk_normal ?_
    refine J_then_normal ?_
    refine J_region ?_
    refine JM rfl rfl ?_
    refine JQ (Q_addi (.tmp rfl) At.int (by first | omega | simp <;> omega) (by first | omega | simp <;> omega)) rfl ?_
    refine JA rfl rfl ?_
    refine JN ?_
    refine J_back (k + 1) ?_ ?_ ?_ ?_
    · exact ⟨⟨by omega, by rw [List.take_succ_eq_append_getElem (by first | omega | simp <;> omega), List.take_succ_eq_append_getElem (by first | omega | simp <;> omega), ht]; exact congrArg (fun q => _ ++ [q]) h1⟩, by omega⟩
    · exact ⟨fe rfl (by first | rfl | exact vint_eq (by first | omega | simp <;> omega) | exact vsl_eq (by simp) | exact vstr_eq (by simp)), trivial⟩
    · exact ⟨rfl, rfl, trivial⟩
    · exact Has.nil
  try simp only [BS, ne_eq] at h0
  refine J_exit ?_
  refine J_then_exit ?_
  refine J_then_exit ?_
  refine J_blk_out ?_
  refine J_then_normal ?_
  refine JSR ?_
  refine JQ (Q_assign At.bool) rfl ?_
  refine JN ?_
  refine J_retc ?_
  exact J_ret1 rfl (ResAt.tmp rfl) () trivial Split.nil (imp_eq (vbool_eq (by obtain rfl : k = 20 := (by first | omega | simp <;> omega); rw [List.take_of_length_le (by first | omega | simp <;> omega), List.take_of_length_le (by first | omega | simp <;> omega)] at ht; rw [ht, bytesLess_same])))
end Go.Sep
namespace Go.Sep
open Go Go.Proofs
open Enc (V)
attribute [local irreducible] Quiet QStep J At FnX Fn FnP Repl Split Has Post Back GoZ
def wordR (a b c d : UInt8) : UInt32 := shl32 a.toUInt32 24 ||| shl32 b.toUInt32 16 ||| shl32 c.toUInt32 8 ||| d.toUInt32
theorem rWordU_c (l : Bytes) (h : 4 ≤ l.length) : FnP Tryz.prog 144 [Sl l] (VInt .u32 ((wordR l[0] l[1] l[2] l[3]).toNat : Nat)) := by
  refine FnP_intro (by kernel_rfl) Tryz.func144 rfl Tryz.ntmps144 rfl (fun e => ?_)
  refine JSR ?_
  refine JQ (Q_assign (At.k32 (z := 0) (by decide))) rfl ?_
  refine JN ?_
  refine J_seq ?_
  refine J_draw mix 23 [3, 4, 5, 6, 7, 8, 9, 10, 11, 12, 13, 14, 15, 16, 17, 18, 19, 20, 21, 22, 23, 24, 2] [_, _, _, _, _, _, _, _, _, _, _, _, _, _, _, _, _, _, _, _, _, _, _] rfl rfl (by kernel_rfl) (by kernel_rfl) (by kernel_rfl) (by kernel_rfl) (by kernel_rfl) ⟨QS (Q_move (.tmp rfl)) rfl, QS (Q_idxAddr Tryz.underlying23 T5.size (.tmp rfl) At.int (by decide) (show (0 : Int).toNat < _ by omega)) rfl, QS (Q_load (.tmp rfl) T5) rfl, QS (Q_conv8to32 (.tmp rfl) (by kernel_rfl) Tryz.underlying191) rfl, QS (Q_shl32 (c := 24) (.tmp rfl) At.int (by first | omega | simp <;> omega)) rfl, QS (Q_move (.tmp rfl)) rfl, QS (Q_idxAddr Tryz.underlying23 T5.size (.tmp rfl) At.int (by decide) (show (1 : Int).toNat < _ by omega)) rfl, QS (Q_load (.tmp rfl) T5) rfl, QS (Q_conv8to32 (.tmp rfl) (by kernel_rfl) Tryz.underlying191) rfl, QS (Q_shl32 (c := 16) (.tmp rfl) At.int (by first | omega | simp <;> omega)) rfl, QS (Q_or32 (.tmp rfl) (.tmp rfl)) rfl, QS (Q_move (.tmp rfl)) rfl, QS (Q_idxAddr Tryz.underlying23 T5.size (.tmp rfl) At.int (by decide) (show (2 : Int).toNat < _ by omega)) rfl, QS (Q_load (.tmp rfl) T5) rfl, QS (Q_conv8to32 (.tmp rfl) (by kernel_rfl) Tryz.underlying191) rfl, QS (Q_shl32 (c := 8) (.tmp rfl) At.int (by first | omega | simp <;> omega)) rfl, QS (Q_or32 (.tmp rfl) (.tmp rfl)) rfl, QS (Q_move (.tmp rfl)) rfl, QS (Q_idxAddr Tryz.underlying23 T5.size (.tmp rfl) At.int (by decide) (show (3 : Int).toNat < _ by omega)) rfl, QS (Q_load (.tmp rfl) T5) rfl, QS (Q_conv8to32 (.tmp rfl) (by kernel_rfl) Tryz.underlying191) rfl, QS (Q_or32 (.tmp rfl) (.tmp rfl)) rfl, QS (Q_assign (.tmp rfl)) rfl, trivial⟩ ?_
  refine JN ?_
  refine J_retc ?_
  exact J_ret1 rfl (ResAt.tmp rfl) () trivial Split.nil imp_refl
theorem sub8_toNat (c : UInt8) (k : Nat) (hk : k < 256) (h : k ≤ c.toNat) : (c - UInt8.ofNat k).toNat = c.toNat - k := by
  have h2 : (UInt8.ofNat k).toNat = k := by rw [UInt8.toNat_ofNat']; omega
  rw [UInt8.toNat_sub, h2]
  have := c.toNat_lt
  omega
theorem rDigit_c (c : UInt8) : FnP Tryz.prog 92 [VInt .u8 (c.toNat : Nat)] (VInt .i64 (digitR c)) := by
  refine FnP_intro (by kernel_rfl) Tryz.func92 rfl Tryz.ntmps92 rfl (fun e => ?_)
  refine JSR ?_
  refine JQ (Q_assign At.int) rfl ?_
  refine JN ?_
  refine J_seq ?_
  refine J_block ?_
  refine JSR ?_
  refine JM rfl rfl ?_
  refine JQ (Q_geq (.tmp rfl) At.int) rfl ?_
  refine JM rfl rfl ?_
  refine J_qstep (QG rfl rfl rfl rfl rfl opt_bool (fun hg => Q_move (.tmp rfl))) rfl rfl ?_
  refine J_qstep (QG rfl rfl rfl rfl rfl opt_bool (fun hg => (by have hg0 := hg; simp only [BS, ne_eq] at hg0; exact Q_leq (At.opt rfl (by first | exact hg | (simp only [BS, ne_eq] at hg ⊢; first | exact hg | simp_all))) At.int))) rfl rfl ?_
  refine JQ (Q_andB (.tmp rfl) (fun hb => At.opt rfl (by simp only [BS, ne_eq] at hb ⊢; first | exact hb | simp_all))) rfl ?_
  refine JA rfl rfl ?_
  refine JN ?_
  refine J_cond (.tmp rfl) (fun h0 => ?_) (fun h0 => ?_)
  · try simp only [BS, ne_eq] at h0
    refine JSR ?_
    refine JM rfl rfl ?_
    refine JQ (Q_sub8 (.tmp rfl) (At.k8 (z := 48) (by decide))) rfl ?_
    refine JQ (Q_conv8to64 (.tmp rfl) (by kernel_rfl) Tryz.underlying3) rfl ?_
    refine JA rfl rfl ?_
    refine JN ?_
    refine J_retc ?_
    refine J_blk_ret ?_
    refine J_then_ret ?_
    exact J_ret1 rfl (ResAt.tmp rfl) () trivial Split.nil (imp_eq (vint_eq (by unfold digitR; rw [if_pos (by first | omega | simp <;> omega), sub8_toNat c 48 (by first | omega | simp <;> omega) (by first | omega | simp <;> omega)]; omega)))
  try simp only [BS, ne_eq] at h0
  refine JSR ?_
  refine JM rfl rfl ?_
  refine JQ (Q_geq (.tmp rfl) At.int) rfl ?_
  refine JM rfl rfl ?_
  refine J_qstep (QG rfl rfl rfl rfl rfl opt_bool (fun hg => Q_move (.tmp rfl))) rfl rfl ?_
  refine J_qstep (QG rfl rfl rfl rfl rfl opt_bool (fun hg => (by have hg0 := hg; simp only [BS, ne_eq] at hg0; exact Q_leq (At.opt rfl (by first | exact hg | (simp only [BS, ne_eq] at hg ⊢; first | exact hg | simp_all))) At.int))) rfl rfl ?_
  refine JQ (Q_andB (.tmp rfl) (fun hb => At.opt rfl (by simp only [BS, ne_eq] at hb ⊢; first | exact hb | simp_all))) rfl ?_
  refine JA rfl rfl ?_
  refine JN ?_
  refine J_cond (.tmp rfl) (fun h1 => ?_) (fun h1 => ?_)
  · try simp only [BS, ne_eq] at h1
    refine JSR ?_
    refine JM rfl rfl ?_
    refine JQ (Q_sub8 (.tmp rfl) (At.k8 (z := 97) (by decide))) rfl ?_
    refine JQ (Q_conv8to64 (.tmp rfl) (by kernel_rfl) Tryz.underlying3) rfl ?_
    have hb := (c - UInt8.ofNat 97).toNat_lt
    refine JQ (Q_addi (.tmp rfl) At.int (by first | omega | simp <;> omega) (by first | omega | simp <;> omega)) rfl ?_
    refine JA rfl rfl ?_
    refine JN ?_
    refine J_retc ?_
    refine J_blk_ret ?_
    refine J_then_ret ?_
    exact J_ret1 rfl (ResAt.tmp rfl) () trivial Split.nil (imp_eq (vint_eq (by unfold digitR; rw [if_neg (by first | omega | simp <;> omega), if_pos (by first | omega | simp <;> omega), sub8_toNat c 97 (by first | omega | simp <;> omega) (by first | omega | simp <;> omega)]; omega)))
  try simp only [BS, ne_eq] at h1
  refine J_skip ?_
  refine J_blk_normal ?_
  refine J_then_normal ?_
  refine JSR ?_
  refine JQ (Q_assign At.int) rfl ?_
  refine JN ?_
  refine J_retc ?_
  exact J_ret1 rfl (ResAt.tmp rfl) () trivial Split.nil (imp_eq (vint_eq (by unfold digitR; rw [if_neg (by first | omega | simp <;> omega), if_neg (by first | omega | simp <;> omega)])))
end Go.Sep
namespace Go.Sep
open Go Go.Proofs
open Enc (V)
attribute [local irreducible] Quiet QStep J At FnX Fn FnP Repl Split Has Post Back GoZ
theorem compare_less : ∀ (s t : Bs), decide (Lib.compareBytes s t < 0) = Op.bytesLess s t
  | [], [] => rfl
  | [], _ :: _ => rfl
  | _ :: _, [] => rfl
  | a :: s, b :: t => by
    have ih := compare_less s t
    unfold Lib.compareBytes Op.bytesLess
    by_cases h1 : a < b
    · simp [h1]
    · by_cases h2 : b < a
      · have : a ≠ b := fun e => by subst e; exact h1 h2
        simp [h1, h2, this]
      · have : a = b := UInt8.toNat_inj.1 (by rw [UInt8.lt_iff_toNat_lt] at h1 h2; omega)
        subst this
        simp [h1, ih]
theorem less_c (a b : Oid) : FnP Tryz.prog 209 [V a, V b] (VBool (Op.bytesLess a.l b.l)) := by
  have ha := a.h
  have hb := b.h
  refine FnP_intro (by kernel_rfl) Tryz.func209 rfl Tryz.ntmps209 rfl (fun e => ?_)
  refine JSR ?_
  refine J_boxI (α := (Arr 20 UInt8)) (.tmp rfl) rfl ?_
  refine J_boxI (α := (Arr 20 UInt8)) (.tmp rfl) rfl ?_
  refine JQ (Q_assign At.bool) rfl ?_
  refine JN ?_
  refine J_seq ?_
  refine J_draw mix 5 [5, 6, 7, 8, 4] [_, _, _, _, _] rfl rfl (by kernel_rfl) (by kernel_rfl) (by kernel_rfl) (by kernel_rfl) (by kernel_rfl) ⟨QS (Q_sliceA Tryz.underlying38 T5.size (by decide) (.tmp rfl) rfl rfl (by first | omega | simp <;> omega) (by first | omega | simp <;> omega) (by first | omega | simp <;> omega)) rfl, QS (Q_sliceA Tryz.underlying38 T5.size (by decide) (.tmp rfl) rfl rfl (by first | omega | simp <;> omega) (by first | omega | simp <;> omega) (by first | omega | simp <;> omega)) rfl, QS (Q_call (bCompare_c _ _) ⟨(.tmp rfl), (.tmp rfl), trivial⟩) rfl, QS (Q_lss (.tmp rfl) At.int) rfl, QS (Q_assign (.tmp rfl)) rfl, trivial⟩ ?_
  refine JN ?_
  refine J_retc ?_
  exact J_ret1 rfl (ResAt.tmp rfl) () trivial Split.nil (imp_eq (vbool_eq (by rw [← compare_less]; simp [List.take_of_length_le, ha, hb])))
end Go.Sep
namespace Go.Sep
open Go Go.Proofs
open Enc (V)
instance : Inhabited Oid := ⟨GoZero.z⟩
abbrev ltO (a b : Oid) : Bool := Op.bytesLess a.l b.l
abbrev IR (v : Value) : VP := VIface 125 (Is v)
theorem findsLen : Finds Tryz.prog 125 "Len" 206 := fun rv w => by kernel_rfl
theorem findsLess : Finds Tryz.prog 125 "Less" 207 := fun rv w => by kernel_rfl
theorem findsSwap : Finds Tryz.prog 125 "Swap" 208 := fun rv w => by kernel_rfl
theorem swp_toList (d : Array Oid) (i j : Nat) (hi : i < d.size) (hj : j < d.size) : (d.toList.set i d.toList[j]).set j d.toList[i] = (Sort.swp d i j).toList := by
  simp [Sort.swp, hi, hj]
attribute [local irreducible] Quiet QStep J At FnX Fn FnP Repl Split Has Post Back GoZ
theorem rowLen_c (l : List Oid) : FnP Tryz.prog 206 [Sl l] (VInt .i64 (l.length : Nat)) := by
  refine FnP_intro (by kernel_rfl) Tryz.func206 rfl Tryz.ntmps206 rfl (fun e => ?_)
  refine JSR ?_
  refine JQ (Q_assign At.int) rfl ?_
  refine JNSR ?_
  refine JM rfl rfl ?_
  refine JQ (Q_len Tryz.underlying125 rfl (.tmp rfl)) rfl ?_
  refine JA rfl rfl ?_
  refine JN ?_
  refine J_retc ?_
  exact J_ret1 rfl (ResAt.tmp rfl) () trivial Split.nil imp_refl
theorem rowLess_c (d : Array Oid) (i j : Nat) (hi : i < d.size) (hj : j < d.size) : FnP Tryz.prog 207 [Sl d.toList, VInt .i64 (i : Nat), VInt .i64 (j : Nat)] (VBool (ltO d[i]! d[j]!)) := by
  refine FnP_intro (by kernel_rfl) Tryz.func207 rfl Tryz.ntmps207 rfl (fun e => ?_)
  refine JSR ?_
  refine JQ (Q_assign At.bool) rfl ?_
  refine JN ?_
  refine J_seq ?_
  refine J_draw mix 10 [7, 8, 9, 10, 11, 12, 13, 14, 15, 6] [_, _, _, _, _, _, _, _, _, _] rfl rfl (by kernel_rfl) (by kernel_rfl) (by kernel_rfl) (by kernel_rfl) (by kernel_rfl) ⟨QS (Q_move (.tmp rfl)) rfl, QS (Q_move (.tmp rfl)) rfl, QS ((by first | exact Q_idxAddrN Tryz.underlying125 T38.size (.tmp rfl) (.tmp rfl) (by first | omega | simp <;> omega) | exact Q_idxAddr Tryz.underlying125 T38.size (.tmp rfl) (.tmp rfl) (by first | omega | simp <;> omega) (by first | omega | simp <;> omega))) rfl, QS (Q_load (.tmp rfl) T38) rfl, QS (Q_move (.tmp rfl)) rfl, QS (Q_move (.tmp rfl)) rfl, QS ((by first | exact Q_idxAddrN Tryz.underlying125 T38.size (.tmp rfl) (.tmp rfl) (by first | omega | simp <;> omega) | exact Q_idxAddr Tryz.underlying125 T38.size (.tmp rfl) (.tmp rfl) (by first | omega | simp <;> omega) (by first | omega | simp <;> omega))) rfl, QS (Q_load (.tmp rfl) T38) rfl, QS (Q_call (less_c _ _) ⟨(.tmp rfl), (.tmp rfl), trivial⟩) rfl, QS (Q_assign (.tmp rfl)) rfl, trivial⟩ ?_
  refine JN ?_
  refine J_retc ?_
  exact J_ret1 rfl (ResAt.tmp rfl) () trivial Split.nil (imp_eq (vbool_eq (by simp [hi, hj])))
theorem rowSwap_c (v : Value) (d : Array Oid) (i j : Nat) (hi : i < d.size) (hj : j < d.size) : Fn Tryz.prog 208 [Is v, VInt .i64 (i : Nat), VInt .i64 (j : Nat)] [RowR 38 v d.toList] (fun _ : Unit => True) (fun _ => VTup []) (fun _ => [RowR 38 v (Sort.swp d i j).toList]) := by
  refine Fn_intro (by kernel_rfl) Tryz.func208 rfl Tryz.ntmps208 rfl (fun e => ?_)
  refine J_drawE (S1 := [RowR 38 v (d.toList.set i d.toList[j])]) mix 13 [6, 7, 8, 9, 10, 11, 12, 13, 14, 15, 16, 17, 18] [_, _, _, _, _, _, _, _, _, _, _, _, _] rfl rfl (by kernel_rfl) (by kernel_rfl) (by kernel_rfl) (by kernel_rfl) (by kernel_rfl) (by intro o ho; obtain rfl := Option.some.inj ho; exact ⟨rfl, rfl⟩) ⟨QS (Q_move (.tmp rfl)) rfl, QS (Q_move (.tmp rfl)) rfl, QS (Q_move (.tmp rfl)) rfl, QS (Q_move (.tmp rfl)) rfl, QS (Q_move (.tmp rfl)) rfl, QS (Q_move (.tmp rfl)) rfl, QS (Q_idxAddrR (α := (Arr 20 UInt8)) Tryz.underlying125 T38.size (.tmp rfl) (by repeat first | exact R0 | apply RT) (.tmp rfl) (by first | omega | simp <;> omega) (by first | omega | simp <;> omega)) rfl, QS (Q_loadR (α := (Arr 20 UInt8)) (.tmp rfl) (by repeat first | exact R0 | apply RT) T38 (by first | omega | simp <;> omega)) rfl, QS (Q_move (.tmp rfl)) rfl, QS (Q_move (.tmp rfl)) rfl, QS (Q_idxAddrR (α := (Arr 20 UInt8)) Tryz.underlying125 T38.size (.tmp rfl) (by repeat first | exact R0 | apply RT) (.tmp rfl) (by first | omega | simp <;> omega) (by first | omega | simp <;> omega)) rfl, QS (Q_loadR (α := (Arr 20 UInt8)) (.tmp rfl) (by repeat first | exact R0 | apply RT) T38 (by first | omega | simp <;> omega)) rfl, QS (Q_idxAddrR (α := (Arr 20 UInt8)) Tryz.underlying125 T38.size (.tmp rfl) (by repeat first | exact R0 | apply RT) (.tmp rfl) (by first | omega | simp <;> omega) (by first | omega | simp <;> omega)) rfl, trivial⟩ (TT_row _ _) [2, 3] (by kernel_rfl) (fun i hi o X ho hX => ?_) (fun o ho => ?_) ?_
  · simp only [List.mem_cons, List.not_mem_nil, or_false] at hi
    rcases hi with rfl | rfl
    · obtain rfl := Option.some.inj ho; obtain rfl := Option.some.inj hX; exact QS (Q_move (.tmp rfl)) rfl
    · obtain rfl := Option.some.inj ho; obtain rfl := Option.some.inj hX; exact QS (Q_move (.tmp rfl)) rfl
  · obtain rfl := Option.some.inj ho
    exact E_storeR (α := Oid) (.tmp rfl) (.tmp rfl) (by simpa using hi) rfl Repl.one T38.size
  refine JQ (Q_idxAddrR (α := (Arr 20 UInt8)) Tryz.underlying125 T38.size (.tmp rfl) (by repeat first | exact R0 | apply RT) (.tmp rfl) (by first | omega | simp <;> omega) (by first | omega | simp <;> omega)) rfl ?_
  refine J_storeA (α := (Arr 20 UInt8)) (.tmp rfl) (.tmp rfl) rfl (by repeat first | exact R1 | apply RT) (by first | omega | simp <;> omega) T38.size ?_
  refine J_nil ?_
  exact J_end0 rfl () trivial (Split.take (Repl.row (by repeat first | exact R0 | apply RT) (swp_toList d i j hi hj)) Split.nil) (fun _ _ => vtup0 _ _)
end Go.Sep
namespace Go.Sort
variable {α : Type} [Inhabited α] {lt : α → α → Bool}
theorem insInner_stop {a j : Nat} {d : Array α} (h : ¬ a < j ∨ lt d[j]! d[j - 1]! = false) : insInner lt a j d = d := by
  cases j with
  | zero => rfl
  | succ j =>
    unfold insInner
    rw [if_neg]
    rcases h with h | h
    · simp; intro h2; omega
    · simp at h; simp [h]
theorem insInner_go {a j : Nat} {d : Array α} (h : a < j) (h2 : lt d[j]! d[j - 1]! = true) : insInner lt a j d = insInner lt a (j - 1) (swp d j (j - 1)) := by
  cases j with
  | zero => omega
  | succ j =>
    rw [insInner]
    simp at h2
    rw [if_pos (by simp [h2]; omega)]
    rfl
theorem insOuter_go {a b i : Nat} {d : Array α} (h : i < b) : insOuter lt a b i d = insOuter lt a b (i + 1) (insInner lt a i d) := by rw [insOuter, if_pos h]
theorem insOuter_stop {a b i : Nat} {d : Array α} (h : ¬ i < b) : insOuter lt a b i d = d := by rw [insOuter, if_neg h]
theorem siftDown_stop {hi f r : Nat} {d : Array α} (h : hi ≤ 2 * r + 1) : siftDown lt hi f r d = d := by rw [siftDown, dif_pos h]
def childOf (lt : α → α → Bool) (d : Array α) (hi f r : Nat) : Nat := if 2 * r + 1 + 1 < hi ∧ lt d[f + (2 * r + 1)]! d[f + (2 * r + 1) + 1]! = true then 2 * r + 2 else 2 * r + 1
theorem siftDown_out {hi f r : Nat} {d : Array α} (h : ¬ hi ≤ 2 * r + 1) (h2 : lt d[f + r]! d[f + childOf lt d hi f r]! = false) : siftDown lt hi f r d = d := by
  rw [siftDown, dif_neg h]
  unfold childOf at h2
  by_cases hc : 2 * r + 1 + 1 < hi ∧ lt d[f + (2 * r + 1)]! d[f + (2 * r + 1) + 1]! = true
  · rw [if_pos hc] at h2; rw [if_pos (by simp [hc]), if_pos (by simp [h2])]
  · rw [if_neg hc] at h2; rw [if_neg (by simpa using hc), if_pos (by simp [h2])]
theorem siftDown_go {hi f r : Nat} {d : Array α} (h : ¬ hi ≤ 2 * r + 1) (h2 : lt d[f + r]! d[f + childOf lt d hi f r]! = true) : siftDown lt hi f r d = siftDown lt hi f (childOf lt d hi f r) (swp d (f + r) (f + childOf lt d hi f r)) := by
  rw [siftDown, dif_neg h]
  unfold childOf at h2 ⊢
  by_cases hc : 2 * r + 1 + 1 < hi ∧ lt d[f + (2 * r + 1)]! d[f + (2 * r + 1) + 1]! = true
  · rw [if_pos hc] at h2 ⊢; rw [if_pos (by simp [hc]), if_neg (by simp [h2]), dif_pos (by omega)]
  · rw [if_neg hc] at h2 ⊢; rw [if_neg (by simpa using hc), if_neg (by simp [h2])]
theorem childOf_lt {hi f r : Nat} {d : Array α} (h : ¬ hi ≤ 2 * r + 1) : r < childOf lt d hi f r ∧ childOf lt d hi f r < hi := by
  unfold childOf; split <;> omega
theorem siftDown_size {hi f : Nat} : ∀ (n r : Nat) (d : Array α), hi - r ≤ n → (siftDown lt hi f r d).size = d.size := by
  intro n
  induction n with
  | zero => intro r d h; rw [siftDown_stop (by omega)]
  | succ n ih =>
    intro r d h
    by_cases h1 : hi ≤ 2 * r + 1
    · rw [siftDown_stop h1]
    · have hc := childOf_lt (lt := lt) (d := d) (f := f) h1
      by_cases h2 : lt d[f + r]! d[f + childOf lt d hi f r]! = true
      · rw [siftDown_go h1 h2, ih _ _ (by omega), size_swp]
      · rw [siftDown_out h1 (by simpa using h2)]
theorem reverseLoop_go {i j : Nat} {d : Array α} (h : i < j) : reverseLoop i j d = reverseLoop (i + 1) (j - 1) (swp d i j) := by rw [reverseLoop, if_pos h]
theorem reverseLoop_stop {i j : Nat} {d : Array α} (h : ¬ i < j) : reverseLoop i j d = d := by rw [reverseLoop, if_neg h]
end Go.Sort
namespace Go.Sep
open Go Go.Proofs
open Enc (V)
attribute [local irreducible] Quiet QStep J At FnX Fn FnP Repl Split Has Post Back GoZ
theorem insSort_c (v : Value) (d0 : Array Oid) (a b : Nat) (hab : a ≤ b) (hb : b ≤ d0.size) (hs : d0.size ≤ 1152921504606846976) : Fn Tryz.prog 120 [IR v, VInt .i64 (a : Nat), VInt .i64 (b : Nat)]
    [RowR 38 v d0.toList] (fun _ : Unit => True) (fun _ => VTup []) (fun _ => [RowR 38 v (Sort.insertionSort ltO d0 a b).toList]) := by
  refine Fn_intro (by kernel_rfl) Tryz.func120 rfl Tryz.ntmps120 rfl (fun e => ?_)
  refine JSR ?_
  refine JM rfl rfl ?_
  refine JQ (Q_addi (.tmp rfl) At.int (by first | omega | simp <;> omega) (by first | omega | simp <;> omega)) rfl ?_
  refine JA rfl rfl ?_
  refine JN ?_
  refine J_block ?_
  refine J_loopU (ι := Nat × Array Oid) (fun q => match q with | (i, d) => a < i ∧ d.size = d0.size ∧ Sort.insOuter ltO a b i d = Sort.insertionSort ltO d0 a b) (fun q => match q with | (i, d) => [(6, VInt .i64 (i : Nat))]) [(0, _), (1, _), (2, _)] (fun q => match q with | (i, d) => [RowR 38 v d.toList]) (fun q => match q with | (i, d) => b - i) ((a + 1, d0)) ⟨by omega, rfl, rfl⟩ ⟨fe rfl (by first | rfl | exact vint_eq (by first | omega | simp <;> omega) | exact vsl_eq (by simp) | exact vstr_eq (by simp)), trivial⟩ ⟨rfl, rfl, rfl, trivial⟩ (Has.take (Repl.row (by repeat first | exact R0 | apply RT) (by first | rfl | simp)) Has.nil) (fun q hq => ?_)
  obtain ⟨i, d⟩ := q
  try dsimp only at hq
  obtain ⟨hi, hd, ht⟩ := hq
  refine J_seq ?_
  refine JSR ?_
  refine JM rfl rfl ?_
  refine JM rfl rfl ?_
  refine JQ (Q_lss (.tmp rfl) (.tmp rfl)) rfl ?_
  refine JN ?_
  refine J_cond (.tmp rfl) (fun h0 => ?_) (fun h0 => ?_)
  · try simp only [BS, ne_eq] at h0
    refine J_skip ?_
    refine J_then_normal ?_
    refine J_seq ?_
    refine J_block ?_
    refine JSR ?_
    refine JM rfl rfl ?_
    refine JA rfl rfl ?_
    refine JN ?_
    refine J_block ?_
    refine J_loopU (ι := Nat × Array Oid) (fun q => match q with | (j, d1) => j ≤ i ∧ d1.size = d0.size ∧ Sort.insInner ltO a j d1 = Sort.insInner ltO a i d) (fun q => match q with | (j, d1) => [(7, VInt .i64 (j : Nat))]) [(0, _), (1, _), (2, _), (6, _)] (fun q => match q with | (j, d1) => [RowR 38 v d1.toList]) (fun q => match q with | (j, d1) => j) ((i, d)) ⟨by omega, hd, rfl⟩ ⟨fe rfl (by first | rfl | exact vint_eq (by first | omega | simp <;> omega) | exact vsl_eq (by simp) | exact vstr_eq (by simp)), trivial⟩ ⟨rfl, rfl, rfl, rfl, trivial⟩ (Has.take (Repl.row (by repeat first | exact R0 | apply RT) (by first | rfl | simp)) Has.nil) (fun q_1 hq_1 => ?_)
    obtain ⟨j, d1⟩ := q_1
    try dsimp only at hq_1
    obtain ⟨hj, hd1, ht1⟩ := hq_1
    refine J_seq ?_
    refine JSR ?_
    refine JM rfl rfl ?_
    refine JM rfl rfl ?_
    refine JQ (Q_gtr (.tmp rfl) (.tmp rfl)) rfl ?_
    refine JM rfl rfl ?_
    refine J_qstep (QG rfl rfl rfl rfl rfl opt_bool (fun hg => Q_move (.tmp rfl))) rfl rfl ?_
    refine J_qstep (QG rfl rfl rfl rfl rfl opt_bool (fun hg => Q_move (.tmp rfl))) rfl rfl ?_
    refine J_qstep (QG rfl rfl rfl rfl rfl opt_bool (fun hg => Q_move (.tmp rfl))) rfl rfl ?_
    refine J_qstep (QG rfl rfl rfl rfl rfl opt_bool (fun hg => (by have hg0 := hg; simp only [BS, ne_eq] at hg0; exact Quiet.imp (Q_subi (At.opt rfl (by first | exact hg | (simp only [BS, ne_eq] at hg ⊢; first | exact hg | simp_all))) At.int (by first | omega | simp <;> omega) (by first | omega | simp <;> omega)) (imp_eq (vint_eq (show _ = ((j - 1 : Nat) : Int) by first | omega | (simp; omega))))))) rfl rfl ?_
    refine J_qstep (QG rfl rfl rfl rfl rfl opt_bool (fun hg => (by have hg0 := hg; simp only [BS, ne_eq] at hg0; exact Q_invokeRow findsLess (rowLess_c (d1) (j) (j - 1) (by first | omega | (simp only [Sort.size_swp]; omega)) (by first | omega | (simp only [Sort.size_swp]; omega))) (At.opt rfl (by first | exact hg | (simp only [BS, ne_eq] at hg ⊢; first | exact hg | simp_all))) ⟨(At.opt rfl (by first | exact hg | (simp only [BS, ne_eq] at hg ⊢; first | exact hg | simp_all))), (At.opt rfl (by first | exact hg | (simp only [BS, ne_eq] at hg ⊢; first | exact hg | simp_all))), trivial⟩ (by repeat first | exact R0 | apply RT)))) rfl rfl ?_
    refine JQ (Q_andB (.tmp rfl) (fun hb => At.opt rfl (by simp only [BS, ne_eq] at hb ⊢; first | exact hb | simp_all))) rfl ?_
    refine JN ?_
    refine J_cond (.tmp rfl) (fun h1 => ?_) (fun h1 => ?_)
    · try simp only [BS, ne_eq] at h1
      refine J_skip ?_
      refine J_then_normal ?_
      refine J_seq ?_
      refine J_block ?_
      refine J_region ?_
      refine JM rfl rfl ?_
      refine JM rfl rfl ?_
      refine JM rfl rfl ?_
      refine JQ (Quiet.imp (Q_subi (.tmp rfl) At.int (by first | omega | simp <;> omega) (by first | omega | simp <;> omega)) (imp_eq (vint_eq (show _ = ((j - 1 : Nat) : Int) by first | omega | (simp; omega))))) rfl ?_
      refine J_invoke findsSwap (rowSwap_c _ (d1) (j) (j - 1) ?_ ?_) (.tmp rfl) ⟨(.tmp rfl), (.tmp rfl), trivial⟩ (Split.take (by repeat first | exact R0 | apply RT) Split.nil) rfl (fun r32 hr32 => ?_)
      · first | omega | (simp only [Sort.size_swp]; omega)
      · first | omega | (simp only [Sort.size_swp]; omega)
      refine J_nil ?_
      refine J_blk_normal ?_
      refine J_then_normal ?_
      refine J_region ?_
      refine JM rfl rfl ?_
      refine JQ (Q_subi (.tmp rfl) At.int (by first | omega | simp <;> omega) (by first | omega | simp <;> omega)) rfl ?_
      refine JA rfl rfl ?_
      refine JN ?_
      refine J_back ((j - 1, Sort.swp d1 j (j - 1))) ?_ ?_ ?_ ?_
      · exact ⟨⟨by omega, by rw [Sort.size_swp]; exact hd1, by rw [← ht1, Sort.insInner_go (a := a) (j := j) (by first | omega | simp <;> omega) h1.2]⟩, by simp only; omega⟩
      · exact ⟨fe rfl (by first | rfl | exact vint_eq (by first | omega | simp <;> omega) | exact vsl_eq (by simp) | exact vstr_eq (by simp)), trivial⟩
      · exact ⟨rfl, rfl, rfl, rfl, trivial⟩
      · exact (Has.take (Repl.row (by repeat first | exact R0 | apply RT) (by first | rfl | simp)) Has.nil)
    try simp only [BS, ne_eq] at h1
    refine J_exit ?_
    refine J_then_exit ?_
    refine J_then_exit ?_
    refine J_blk_out ?_
    refine J_blk_normal ?_
    refine J_then_normal ?_
    refine J_region ?_
    refine JM rfl rfl ?_
    refine JQ (Q_addi (.tmp rfl) At.int (by first | omega | simp <;> omega) (by first | omega | simp <;> omega)) rfl ?_
    refine JA rfl rfl ?_
    refine JN ?_
    have e := Sort.insInner_stop (lt := ltO) (a := a) (j := j) (d := d1) (by rcases h1 with h1 | h1; (exact .inl (by first | omega | simp <;> omega)); exact .inr h1)
    refine J_back ((i + 1, d1)) ?_ ?_ ?_ ?_
    · exact ⟨⟨by omega, hd1, by rw [← ht, Sort.insOuter_go (i := i) (d := d) (by first | omega | simp <;> omega), ← ht1, e]⟩, by simp only; omega⟩
    · exact ⟨fe rfl (by first | rfl | exact vint_eq (by first | omega | simp <;> omega) | exact vsl_eq (by simp) | exact vstr_eq (by simp)), trivial⟩
    · exact ⟨rfl, rfl, rfl, trivial⟩
    · exact (Has.take (Repl.row (by repeat first | exact R0 | apply RT) (by first | rfl | simp)) Has.nil)
  try simp only [BS, ne_eq] at h0
  refine J_exit ?_
  refine J_then_exit ?_
  refine J_then_exit ?_
  refine J_blk_out ?_
  have e := Sort.insOuter_stop (lt := ltO) (a := a) (d := d) (show ¬ i < b by omega)
  rw [ht] at e
  exact J_end0 rfl () trivial (Split.take (Repl.row (by repeat first | exact R0 | apply RT) (by rw [e])) Split.nil) (fun _ _ => vtup0 _ _)
theorem siftDown_c (v : Value) (d0 : Array Oid) (lo hi f : Nat) (hl : lo ≤ hi) (hb : f + hi ≤ d0.size) (hs : d0.size ≤ 1152921504606846976) : Fn Tryz.prog 146 [IR v, VInt .i64 (lo : Nat), VInt .i64 (hi : Nat), VInt .i64 (f : Nat)]
    [RowR 38 v d0.toList] (fun _ : Unit => True) (fun _ => VTup []) (fun _ => [RowR 38 v (Sort.siftDown ltO hi f lo d0).toList]) := by
  refine Fn_intro (by kernel_rfl) Tryz.func146 rfl Tryz.ntmps146 rfl (fun e => ?_)
  refine JSR ?_
  refine JM rfl rfl ?_
  refine JA rfl rfl ?_
  refine JN ?_
  refine J_block ?_
  refine J_loopU (ι := Nat × Array Oid) (fun q => match q with | (r, d) => r ≤ hi ∧ d.size = d0.size ∧ Sort.siftDown ltO hi f r d = Sort.siftDown ltO hi f lo d0) (fun q => match q with | (r, d) => [(8, VInt .i64 (r : Nat))]) [(0, _), (2, _), (3, _)] (fun q => match q with | (r, d) => [RowR 38 v d.toList]) (fun q => match q with | (r, d) => hi - r) ((lo, d0)) ⟨by omega, rfl, rfl⟩ ⟨fe rfl (by first | rfl | exact vint_eq (by first | omega | simp <;> omega) | exact vsl_eq (by simp) | exact vstr_eq (by simp)), trivial⟩ ⟨rfl, rfl, rfl, trivial⟩ (Has.take (Repl.row (by repeat first | exact R0 | apply RT) (by first | rfl | simp)) Has.nil) (fun q hq => ?_)
  obtain ⟨r, d⟩ := q
  try dsimp only at hq
  obtain ⟨hr, hd, ht⟩ := hq
  refine J_block ?_
  refine JSR ?_
  refine JM rfl rfl ?_
  refine JQ (Q_muli At.int (.tmp rfl) (by first | omega | simp <;> omega) (by first | omega | simp <;> omega)) rfl ?_
  refine JQ (Quiet.imp (Q_addi (.tmp rfl) At.int (by first | omega | simp <;> omega) (by first | omega | simp <;> omega)) (imp_eq (vint_eq (show _ = ((2 * r + 1 : Nat) : Int) by first | omega | (simp; omega))))) rfl ?_
  refine JA rfl rfl ?_
  refine JNSSR ?_
  refine JM rfl rfl ?_
  refine JM rfl rfl ?_
  refine JQ (Q_geq (.tmp rfl) (.tmp rfl)) rfl ?_
  refine JN ?_
  refine J_cond (.tmp rfl) (fun h0 => ?_) (fun h0 => ?_)
  · try simp only [BS, ne_eq] at h0
    refine J_exit ?_
    refine J_then_exit ?_
    refine J_blk_by rfl ?_
    refine J_then_exit ?_
    refine J_blk_out ?_
    have e := Sort.siftDown_stop (lt := ltO) (f := f) (r := r) (d := d) (show hi ≤ 2 * r + 1 by omega)
    rw [ht] at e
    exact J_end0 rfl () trivial (Split.take (Repl.row (by repeat first | exact R0 | apply RT) (by rw [e])) Split.nil) (fun _ _ => vtup0 _ _)
  try simp only [BS, ne_eq] at h0
  refine J_skip ?_
  refine J_then_normal ?_
  refine J_seqJ (ι := Nat) (fun c => c = Sort.childOf ltO d hi f r) (fun c => [(9, VInt .i64 (c : Nat))]) [(0, _), (2, _), (3, _), (8, _)] (fun c => [RowR 38 v d.toList]) ⟨rfl, rfl, rfl, rfl, trivial⟩ ?_ ?_
  · skip
    refine JSR ?_
    refine JM rfl rfl ?_
    refine JQ (Quiet.imp (Q_addi (.tmp rfl) At.int (by first | omega | simp <;> omega) (by first | omega | simp <;> omega)) (imp_eq (vint_eq (show _ = ((2 * r + 1 + 1 : Nat) : Int) by first | omega | (simp; omega))))) rfl ?_
    refine JM rfl rfl ?_
    refine JQ (Q_lss (.tmp rfl) (.tmp rfl)) rfl ?_
    refine JM rfl rfl ?_
    refine J_qstep (QG rfl rfl rfl rfl rfl opt_bool (fun hg => Q_move (.tmp rfl))) rfl rfl ?_
    refine J_qstep (QG rfl rfl rfl rfl rfl opt_bool (fun hg => Q_move (.tmp rfl))) rfl rfl ?_
    refine J_qstep (QG rfl rfl rfl rfl rfl opt_bool (fun hg => Q_move (.tmp rfl))) rfl rfl ?_
    refine J_qstep (QG rfl rfl rfl rfl rfl opt_bool (fun hg => (by have hg0 := hg; simp only [BS, ne_eq] at hg0; exact Quiet.imp (Q_addi (At.opt rfl (by first | exact hg | (simp only [BS, ne_eq] at hg ⊢; first | exact hg | simp_all))) (At.opt rfl (by first | exact hg | (simp only [BS, ne_eq] at hg ⊢; first | exact hg | simp_all))) (by first | omega | simp <;> omega) (by first | omega | simp <;> omega)) (imp_eq (vint_eq (show _ = ((f + (2 * r + 1) : Nat) : Int) by first | omega | (simp; omega))))))) rfl rfl ?_
    refine J_qstep (QG rfl rfl rfl rfl rfl opt_bool (fun hg => Q_move (.tmp rfl))) rfl rfl ?_
    refine J_qstep (QG rfl rfl rfl rfl rfl opt_bool (fun hg => Q_move (.tmp rfl))) rfl rfl ?_
    refine J_qstep (QG rfl rfl rfl rfl rfl opt_bool (fun hg => (by have hg0 := hg; simp only [BS, ne_eq] at hg0; exact Quiet.imp (Q_addi (At.opt rfl (by first | exact hg | (simp only [BS, ne_eq] at hg ⊢; first | exact hg | simp_all))) (At.opt rfl (by first | exact hg | (simp only [BS, ne_eq] at hg ⊢; first | exact hg | simp_all))) (by first | omega | simp <;> omega) (by first | omega | simp <;> omega)) (imp_eq (vint_eq (show _ = ((f + (2 * r + 1) : Nat) : Int) by first | omega | (simp; omega))))))) rfl rfl ?_
    refine J_qstep (QG rfl rfl rfl rfl rfl opt_bool (fun hg => (by have hg0 := hg; simp only [BS, ne_eq] at hg0; exact Quiet.imp (Q_addi (At.opt rfl (by first | exact hg | (simp only [BS, ne_eq] at hg ⊢; first | exact hg | simp_all))) At.int (by first | omega | simp <;> omega) (by first | omega | simp <;> omega)) (imp_eq (vint_eq (show _ = ((f + (2 * r + 1) + 1 : Nat) : Int) by first | omega | (simp; omega))))))) rfl rfl ?_
    refine J_qstep (QG rfl rfl rfl rfl rfl opt_bool (fun hg => (by have hg0 := hg; simp only [BS, ne_eq] at hg0; exact Q_invokeRow findsLess (rowLess_c (d) (f + (2 * r + 1)) (f + (2 * r + 1) + 1) (by first | omega | (simp only [Sort.size_swp]; omega)) (by first | omega | (simp only [Sort.size_swp]; omega))) (At.opt rfl (by first | exact hg | (simp only [BS, ne_eq] at hg ⊢; first | exact hg | simp_all))) ⟨(At.opt rfl (by first | exact hg | (simp only [BS, ne_eq] at hg ⊢; first | exact hg | simp_all))), (At.opt rfl (by first | exact hg | (simp only [BS, ne_eq] at hg ⊢; first | exact hg | simp_all))), trivial⟩ (by repeat first | exact R0 | apply RT)))) rfl rfl ?_
    refine JQ (Q_andB (.tmp rfl) (fun hb => At.opt rfl (by simp only [BS, ne_eq] at hb ⊢; first | exact hb | simp_all))) rfl ?_
    refine JN ?_
    refine J_cond (.tmp rfl) (fun h1 => ?_) (fun h1 => ?_)
    · try simp only [BS, ne_eq] at h1
      refine J_region ?_
      refine JM rfl rfl ?_
      refine JQ (Quiet.imp (Q_addi (.tmp rfl) At.int (by first | omega | simp <;> omega) (by first | omega | simp <;> omega)) (imp_eq (vint_eq (show _ = ((2 * r + 2 : Nat) : Int) by first | omega | (simp; omega))))) rfl ?_
      refine JA rfl rfl ?_
      refine JN ?_
      refine J_back (2 * r + 2) ?_ ?_ ?_ ?_
      · exact (by unfold Sort.childOf; rw [if_pos ⟨by omega, h1.2⟩])
      · exact ⟨fe rfl (by first | rfl | exact vint_eq (by first | omega | simp <;> omega) | exact vsl_eq (by simp) | exact vstr_eq (by simp)), trivial⟩
      · exact ⟨rfl, rfl, rfl, rfl, trivial⟩
      · exact (Has.take (Repl.row (by repeat first | exact R0 | apply RT) (by first | rfl | simp)) Has.nil)
    try simp only [BS, ne_eq] at h1
    refine J_skip ?_
    refine J_then_normal ?_
    refine J_back (2 * r + 1) ?_ ?_ ?_ ?_
    · exact (by unfold Sort.childOf; rw [if_neg (by rintro ⟨q1, q2⟩; rcases h1 with h1 | h1; (omega); (rw [q2] at h1; cases h1))])
    · exact ⟨fe rfl (by first | rfl | exact vint_eq (by first | omega | simp <;> omega) | exact vsl_eq (by simp) | exact vstr_eq (by simp)), trivial⟩
    · exact ⟨rfl, rfl, rfl, rfl, trivial⟩
    · exact (Has.take (Repl.row (by repeat first | exact R0 | apply RT) (by first | rfl | simp)) Has.nil)
  intro c hc
  have hc2 := Sort.childOf_lt (lt := ltO) (d := d) (f := f) (show ¬ hi ≤ 2 * r + 1 by omega)
  rw [← hc] at hc2
  refine J_seq ?_
  refine JSR ?_
  refine JM rfl rfl ?_
  refine JM rfl rfl ?_
  refine JM rfl rfl ?_
  refine JQ (Quiet.imp (Q_addi (.tmp rfl) (.tmp rfl) (by first | omega | simp <;> omega) (by first | omega | simp <;> omega)) (imp_eq (vint_eq (show _ = ((f + r : Nat) : Int) by first | omega | (simp; omega))))) rfl ?_
  refine JM rfl rfl ?_
  refine JM rfl rfl ?_
  refine JQ (Quiet.imp (Q_addi (.tmp rfl) (.tmp rfl) (by first | omega | simp <;> omega) (by first | omega | simp <;> omega)) (imp_eq (vint_eq (show _ = ((f + c : Nat) : Int) by first | omega | (simp; omega))))) rfl ?_
  refine JQ (Q_invokeRow findsLess (rowLess_c (d) (f + r) (f + c) (by first | omega | (simp only [Sort.size_swp]; omega)) (by first | omega | (simp only [Sort.size_swp]; omega))) (.tmp rfl) ⟨(.tmp rfl), (.tmp rfl), trivial⟩ (by repeat first | exact R0 | apply RT)) rfl ?_
  refine JQ (Q_not (.tmp rfl)) rfl ?_
  refine JN ?_
  refine J_cond (.tmp rfl) (fun h2 => ?_) (fun h2 => ?_)
  · try simp only [BS, ne_eq] at h2
    refine J_retc ?_
    refine J_then_ret ?_
    refine J_blk_ret ?_
    refine J_then_ret ?_
    refine J_blk_ret ?_
    have e := Sort.siftDown_out (lt := ltO) (f := f) (r := r) (d := d) (show ¬ hi ≤ 2 * r + 1 by omega) (by rw [← hc]; exact h2)
    rw [ht] at e
    exact J_ret0 rfl () trivial (Split.take (Repl.row (by repeat first | exact R0 | apply RT) (by rw [e])) Split.nil) (fun _ _ => vtup0 _ _)
  try simp only [BS, ne_eq] at h2
  refine J_skip ?_
  refine J_then_normal ?_
  refine JSR ?_
  refine JM rfl rfl ?_
  refine JM rfl rfl ?_
  refine JM rfl rfl ?_
  refine JQ (Quiet.imp (Q_addi (.tmp rfl) (.tmp rfl) (by first | omega | simp <;> omega) (by first | omega | simp <;> omega)) (imp_eq (vint_eq (show _ = ((f + r : Nat) : Int) by first | omega | (simp; omega))))) rfl ?_
  refine JM rfl rfl ?_
  refine JM rfl rfl ?_
  refine JQ (Quiet.imp (Q_addi (.tmp rfl) (.tmp rfl) (by first | omega | simp <;> omega) (by first | omega | simp <;> omega)) (imp_eq (vint_eq (show _ = ((f + c : Nat) : Int) by first | omega | (simp; omega))))) rfl ?_
  refine J_invoke findsSwap (rowSwap_c _ (d) (f + r) (f + c) ?_ ?_) (.tmp rfl) ⟨(.tmp rfl), (.tmp rfl), trivial⟩ (Split.take (by repeat first | exact R0 | apply RT) Split.nil) rfl (fun r50 hr50 => ?_)
  · first | omega | (simp only [Sort.size_swp]; omega)
  · first | omega | (simp only [Sort.size_swp]; omega)
  refine JNR ?_
  refine JM rfl rfl ?_
  refine JA rfl rfl ?_
  refine J_nil ?_
  refine J_blk_normal ?_
  refine J_then_normal ?_
  refine J_back ((c, Sort.swp d (f + r) (f + c))) ?_ ?_ ?_ ?_
  · exact ⟨⟨by omega, by rw [Sort.size_swp]; exact hd, by rw [← ht, Sort.siftDown_go (r := r) (by first | omega | simp <;> omega) (by rw [← hc]; exact h2), hc]⟩, by simp only; omega⟩
  · exact ⟨fe rfl (by first | rfl | exact vint_eq (by first | omega | simp <;> omega) | exact vsl_eq (by simp) | exact vstr_eq (by simp)), trivial⟩
  · exact ⟨rfl, rfl, rfl, trivial⟩
  · exact (Has.take (Repl.row (by repeat first | exact R0 | apply RT) (by first | rfl | simp)) Has.nil)
end Go.Sep
namespace Go.Sep
open Go Go.Proofs
open Enc (V)
attribute [local irreducible] Quiet QStep J At FnX Fn FnP Repl Split Has Post Back GoZ
theorem heapSort_c (v : Value) (d0 : Array Oid) (a b : Nat) (hab : a < b) (hb : b ≤ d0.size) (hs : d0.size ≤ 1152921504606846976) : Fn Tryz.prog 121 [IR v, VInt .i64 (a : Nat), VInt .i64 (b : Nat)]
    [RowR 38 v d0.toList] (fun _ : Unit => True) (fun _ => VTup []) (fun _ => [RowR 38 v (Sort.heapSort ltO d0 a b).toList]) := by
  refine Fn_intro (by kernel_rfl) Tryz.func121 rfl Tryz.ntmps121 rfl (fun e => ?_)
  refine JSR ?_
  refine JM rfl rfl ?_
  refine JA rfl rfl ?_
  refine JNSR ?_
  refine JQ (Q_assign At.int) rfl ?_
  refine JNSR ?_
  refine JM rfl rfl ?_
  refine JM rfl rfl ?_
  refine JQ (Quiet.imp (Q_subi (.tmp rfl) (.tmp rfl) (by first | omega | simp <;> omega) (by first | omega | simp <;> omega)) (imp_eq (vint_eq (show _ = ((b - a : Nat) : Int) by first | omega | (simp; omega))))) rfl ?_
  refine JA rfl rfl ?_
  refine JNSSR ?_
  refine JM rfl rfl ?_
  refine JQ (Q_subi (.tmp rfl) At.int (by first | omega | simp <;> omega) (by first | omega | simp <;> omega)) rfl ?_
  refine JQ (Q_quoi (.tmp rfl) At.int (by first | omega | simp <;> omega) (by first | omega | simp <;> omega) (by first | omega | simp <;> omega)) rfl ?_
  refine JA rfl rfl ?_
  refine JN ?_
  refine J_block ?_
  refine J_loopU (ι := Nat × Array Oid) (fun q => match q with | (k, d) => (k ≤ b - a ∨ k ≤ 1) ∧ d.size = d0.size ∧ Sort.heapBuild ltO (b - a) a k d = Sort.heapBuild ltO (b - a) a ((b - a - 1) / 2 + 1) d0) (fun q => match q with | (k, d) => [(9, VInt .i64 ((k : Int) - 1))]) [(0, _), (6, _), (7, _), (8, _)] (fun q => match q with | (k, d) => [RowR 38 v d.toList]) (fun q => match q with | (k, d) => k) (((b - a - 1) / 2 + 1, d0)) ⟨by omega, rfl, rfl⟩ ⟨fe rfl (by first | rfl | exact vint_eq (by first | omega | simp <;> omega) | exact vsl_eq (by simp) | exact vstr_eq (by simp)), trivial⟩ ⟨rfl, rfl, rfl, rfl, trivial⟩ (Has.take (Repl.row (by repeat first | exact R0 | apply RT) (by first | rfl | simp)) Has.nil) (fun q hq => ?_)
  obtain ⟨k, d⟩ := q
  try dsimp only at hq
  obtain ⟨hk, hd, ht⟩ := hq
  refine J_seq ?_
  refine JSR ?_
  refine JM rfl rfl ?_
  refine JQ (Q_geq (.tmp rfl) At.int) rfl ?_
  refine JN ?_
  refine J_cond (.tmp rfl) (fun h0 => ?_) (fun h0 => ?_)
  · try simp only [BS, ne_eq] at h0
    refine J_skip ?_
    refine J_then_normal ?_
    refine J_seq ?_
    refine J_block ?_
    refine J_region ?_
    refine JM rfl rfl ?_
    refine JM rfl rfl ?_
    refine J_nat (sl := 23) (k - 1) rfl (by first | omega | simp <;> omega) ?_
    refine JM rfl rfl ?_
    refine JM rfl rfl ?_
    refine J_call (siftDown_c _ _ (k - 1) (b - a) a ?_ ?_ ?_) ⟨(.tmp rfl), (.tmp rfl), (.tmp rfl), (.tmp rfl), trivial⟩ (Split.take (by repeat first | exact R0 | apply RT) Split.nil) rfl (fun r26 hr26 => ?_)
    · exact (by first | omega | simp <;> omega)
    · exact (by first | omega | simp <;> omega)
    · exact (by first | omega | simp <;> omega)
    refine J_nil ?_
    refine J_blk_normal ?_
    refine J_then_normal ?_
    refine J_region ?_
    refine JM rfl rfl ?_
    refine JQ (Q_subi (.tmp rfl) At.int (by first | omega | simp <;> omega) (by first | omega | simp <;> omega)) rfl ?_
    refine JA rfl rfl ?_
    refine JN ?_
    refine J_back ((k - 1, Sort.siftDown ltO (b - a) a (k - 1) d)) ?_ ?_ ?_ ?_
    · exact ⟨⟨by omega, by rw [Sort.siftDown_size _ _ _ (Nat.le_refl _)]; exact hd, by rw [← ht]; obtain ⟨m, rfl⟩ : ∃ m, k = m + 1 := ⟨k - 1, by omega⟩; rfl⟩, by simp only; omega⟩
    · exact ⟨fe rfl (by first | rfl | exact vint_eq (by first | omega | simp <;> omega) | exact vsl_eq (by simp) | exact vstr_eq (by simp)), trivial⟩
    · exact ⟨rfl, rfl, rfl, rfl, trivial⟩
    · exact (Has.take (Repl.row (by repeat first | exact R0 | apply RT) (by first | rfl | simp)) Has.nil)
  try simp only [BS, ne_eq] at h0
  refine J_exit ?_
  refine J_then_exit ?_
  refine J_then_exit ?_
  refine J_blk_out ?_
  refine J_then_normal ?_
  refine JSR ?_
  refine JM rfl rfl ?_
  refine JQ (Q_subi (.tmp rfl) At.int (by first | omega | simp <;> omega) (by first | omega | simp <;> omega)) rfl ?_
  refine JA rfl rfl ?_
  refine JN ?_
  refine J_block ?_
  have hk0 : k = 0 := (by first | omega | simp <;> omega)
  subst hk0
  have hsz : d.size = d0.size := hd
  refine J_loopU (ι := Nat × Array Oid) (fun q => match q with | (k2, d2) => k2 ≤ b - a ∧ d2.size = d0.size ∧ Sort.heapPop ltO a k2 d2 = Sort.heapSort ltO d0 a b) (fun q => match q with | (k2, d2) => [(10, VInt .i64 ((k2 : Int) - 1))]) [(0, _), (6, _), (7, _)] (fun q => match q with | (k2, d2) => [RowR 38 v d2.toList]) (fun q => match q with | (k2, d2) => k2) ((b - a, d)) ⟨Nat.le_refl _, hd, by unfold Sort.heapSort; rw [← ht]; rfl⟩ ⟨fe rfl (by first | rfl | exact vint_eq (by first | omega | simp <;> omega) | exact vsl_eq (by simp) | exact vstr_eq (by simp)), trivial⟩ ⟨rfl, rfl, rfl, trivial⟩ (Has.take (Repl.row (by repeat first | exact R0 | apply RT) (by first | rfl | simp)) Has.nil) (fun q_1 hq_1 => ?_)
  obtain ⟨k2, d2⟩ := q_1
  try dsimp only at hq_1
  obtain ⟨hk2, hd2, ht2⟩ := hq_1
  refine J_seq ?_
  refine JSR ?_
  refine JM rfl rfl ?_
  refine JQ (Q_geq (.tmp rfl) At.int) rfl ?_
  refine JN ?_
  refine J_cond (.tmp rfl) (fun h1 => ?_) (fun h1 => ?_)
  · try simp only [BS, ne_eq] at h1
    refine J_skip ?_
    refine J_then_normal ?_
    refine J_seq ?_
    refine J_block ?_
    refine JSR ?_
    refine JM rfl rfl ?_
    refine JM rfl rfl ?_
    refine JM rfl rfl ?_
    refine JM rfl rfl ?_
    refine JQ (Quiet.imp (Q_addi (.tmp rfl) (.tmp rfl) (by first | omega | simp <;> omega) (by first | omega | simp <;> omega)) (imp_eq (vint_eq (show _ = ((a + (k2 - 1) : Nat) : Int) by first | omega | (simp; omega))))) rfl ?_
    refine J_invoke findsSwap (rowSwap_c _ (d2) (a) (a + (k2 - 1)) ?_ ?_) (.tmp rfl) ⟨(.tmp rfl), (.tmp rfl), trivial⟩ (Split.take (by repeat first | exact R0 | apply RT) Split.nil) rfl (fun r38 hr38 => ?_)
    · first | omega | (simp only [Sort.size_swp]; omega)
    · first | omega | (simp only [Sort.size_swp]; omega)
    refine JNR ?_
    refine JM rfl rfl ?_
    refine JM rfl rfl ?_
    refine JM rfl rfl ?_
    refine J_nat (sl := 41) (k2 - 1) rfl (by first | omega | simp <;> omega) ?_
    refine JM rfl rfl ?_
    refine J_call (siftDown_c _ _ 0 (k2 - 1) a ?_ ?_ ?_) ⟨(.tmp rfl), (.tmp rfl), (.tmp rfl), (.tmp rfl), trivial⟩ (Split.take (by repeat first | exact R0 | apply RT) Split.nil) rfl (fun r43 hr43 => ?_)
    · exact (by first | omega | simp <;> omega)
    · (rw [Sort.size_swp]; omega)
    · (rw [Sort.size_swp]; omega)
    refine J_nil ?_
    refine J_blk_normal ?_
    refine J_then_normal ?_
    refine J_region ?_
    refine JM rfl rfl ?_
    refine JQ (Q_subi (.tmp rfl) At.int (by first | omega | simp <;> omega) (by first | omega | simp <;> omega)) rfl ?_
    refine JA rfl rfl ?_
    refine JN ?_
    refine J_back ((k2 - 1, Sort.siftDown ltO (k2 - 1) a 0 (Sort.swp d2 a (a + (k2 - 1))))) ?_ ?_ ?_ ?_
    · exact ⟨⟨by omega, by rw [Sort.siftDown_size _ _ _ (Nat.le_refl _), Sort.size_swp]; exact hd2, by rw [← ht2]; obtain ⟨m, rfl⟩ : ∃ m, k2 = m + 1 := ⟨k2 - 1, by omega⟩; rfl⟩, by simp only; omega⟩
    · exact ⟨fe rfl (by first | rfl | exact vint_eq (by first | omega | simp <;> omega) | exact vsl_eq (by simp) | exact vstr_eq (by simp)), trivial⟩
    · exact ⟨rfl, rfl, rfl, trivial⟩
    · exact (Has.take (Repl.row (by repeat first | exact R0 | apply RT) (by first | rfl | simp)) Has.nil)
  try simp only [BS, ne_eq] at h1
  refine J_exit ?_
  refine J_then_exit ?_
  refine J_then_exit ?_
  refine J_blk_out ?_
  have hk0 : k2 = 0 := (by first | omega | simp <;> omega)
  subst hk0
  have e : d2 = Sort.heapSort ltO d0 a b := ht2
  exact J_end0 rfl () trivial (Split.take (Repl.row (by repeat first | exact R0 | apply RT) (by rw [e])) Split.nil) (fun _ _ => vtup0 _ _)
theorem reverse_c (v : Value) (d0 : Array Oid) (a b : Nat) (hab : a < b) (hb : b ≤ d0.size) (hs : d0.size ≤ 1152921504606846976) : Fn Tryz.prog 124 [IR v, VInt .i64 (a : Nat), VInt .i64 (b : Nat)]
    [RowR 38 v d0.toList] (fun _ : Unit => True) (fun _ => VTup []) (fun _ => [RowR 38 v (Sort.reverseRange d0 a b).toList]) := by
  refine Fn_intro (by kernel_rfl) Tryz.func124 rfl Tryz.ntmps124 rfl (fun e => ?_)
  refine JSR ?_
  refine JM rfl rfl ?_
  refine JA rfl rfl ?_
  refine JNSR ?_
  refine JM rfl rfl ?_
  refine JQ (Quiet.imp (Q_subi (.tmp rfl) At.int (by first | omega | simp <;> omega) (by first | omega | simp <;> omega)) (imp_eq (vint_eq (show _ = ((b - 1 : Nat) : Int) by first | omega | (simp; omega))))) rfl ?_
  refine JA rfl rfl ?_
  refine JN ?_
  refine J_block ?_
  refine J_loopU (ι := Nat × Nat × Array Oid) (fun q => match q with | (i, j, d) => i ≤ b ∧ j < b ∧ d.size = d0.size ∧ Sort.reverseLoop i j d = Sort.reverseRange d0 a b) (fun q => match q with | (i, j, d) => [(6, VInt .i64 (i : Nat)), (7, VInt .i64 (j : Nat))]) [(0, _)] (fun q => match q with | (i, j, d) => [RowR 38 v d.toList]) (fun q => match q with | (i, j, d) => j - i) ((a, b - 1, d0)) ⟨by omega, by omega, rfl, rfl⟩ ⟨fe rfl (by first | rfl | exact vint_eq (by first | omega | simp <;> omega) | exact vsl_eq (by simp) | exact vstr_eq (by simp)), fe rfl (by first | rfl | exact vint_eq (by first | omega | simp <;> omega) | exact vsl_eq (by simp) | exact vstr_eq (by simp)), trivial⟩ ⟨rfl, trivial⟩ (Has.take (Repl.row (by repeat first | exact R0 | apply RT) (by first | rfl | simp)) Has.nil) (fun q hq => ?_)
  obtain ⟨i, j, d⟩ := q
  try dsimp only at hq
  obtain ⟨hi, hj, hd, ht⟩ := hq
  refine J_seq ?_
  refine JSR ?_
  refine JM rfl rfl ?_
  refine JM rfl rfl ?_
  refine JQ (Q_lss (.tmp rfl) (.tmp rfl)) rfl ?_
  refine JN ?_
  refine J_cond (.tmp rfl) (fun h0 => ?_) (fun h0 => ?_)
  · try simp only [BS, ne_eq] at h0
    refine J_skip ?_
    refine J_then_normal ?_
    refine J_block ?_
    refine JSR ?_
    refine JM rfl rfl ?_
    refine JM rfl rfl ?_
    refine JM rfl rfl ?_
    refine J_invoke findsSwap (rowSwap_c _ (d) (i) (j) ?_ ?_) (.tmp rfl) ⟨(.tmp rfl), (.tmp rfl), trivial⟩ (Split.take (by repeat first | exact R0 | apply RT) Split.nil) rfl (fun r17 hr17 => ?_)
    · first | omega | (simp only [Sort.size_swp]; omega)
    · first | omega | (simp only [Sort.size_swp]; omega)
    refine JNSR ?_
    refine JM rfl rfl ?_
    refine JQ (Q_addi (.tmp rfl) At.int (by first | omega | simp <;> omega) (by first | omega | simp <;> omega)) rfl ?_
    refine JA rfl rfl ?_
    refine JNR ?_
    refine JM rfl rfl ?_
    refine JQ (Quiet.imp (Q_subi (.tmp rfl) At.int (by first | omega | simp <;> omega) (by first | omega | simp <;> omega)) (imp_eq (vint_eq (show _ = ((j - 1 : Nat) : Int) by first | omega | (simp; omega))))) rfl ?_
    refine JA rfl rfl ?_
    refine J_nil ?_
    refine J_blk_normal ?_
    refine J_then_normal ?_
    refine J_back ((i + 1, j - 1, Sort.swp d i j)) ?_ ?_ ?_ ?_
    · exact ⟨⟨by omega, by omega, by rw [Sort.size_swp]; exact hd, by rw [← ht, Sort.reverseLoop_go (i := i) (j := j) (by first | omega | simp <;> omega)]⟩, by simp only; omega⟩
    · exact ⟨fe rfl (by first | rfl | exact vint_eq (by first | omega | simp <;> omega) | exact vsl_eq (by simp) | exact vstr_eq (by simp)), fe rfl (by first | rfl | exact vint_eq (by first | omega | simp <;> omega) | exact vsl_eq (by simp) | exact vstr_eq (by simp)), trivial⟩
    · exact ⟨rfl, trivial⟩
    · exact (Has.take (Repl.row (by repeat first | exact R0 | apply RT) (by first | rfl | simp)) Has.nil)
  try simp only [BS, ne_eq] at h0
  refine J_exit ?_
  refine J_then_exit ?_
  refine J_then_exit ?_
  refine J_blk_out ?_
  have e := Sort.reverseLoop_stop (d := d) (show ¬ i < j by omega)
  rw [ht] at e
  exact J_end0 rfl () trivial (Split.take (Repl.row (by repeat first | exact R0 | apply RT) (by rw [e])) Split.nil) (fun _ _ => vtup0 _ _)
theorem order2_c {tb p : Nat} (v : Value) (d : Array Oid) (a b s : Nat) (ha : a < d.size) (hb : b < d.size) (hs : s ≤ 1000) : Fn Tryz.prog 169 [IR v, VInt .i64 (a : Nat), VInt .i64 (b : Nat), Ptr p 0]
    [RowR 38 v d.toList, BoxR tb p ((s : Nat) : Int)] (fun _ : Unit => True) (fun _ => VTup [VInt .i64 ((Sort.order2 ltO d a b s).1 : Nat), VInt .i64 ((Sort.order2 ltO d a b s).2.1 : Nat)])
    (fun _ => [RowR 38 v d.toList, BoxR tb p (((Sort.order2 ltO d a b s).2.2 : Nat) : Int)]) := by
  refine Fn_intro (by kernel_rfl) Tryz.func169 rfl Tryz.ntmps169 rfl (fun e => ?_)
  refine JSR ?_
  refine JQ (Q_assign At.int) rfl ?_
  refine JQ (Q_assign At.int) rfl ?_
  refine JNSSR ?_
  refine JM rfl rfl ?_
  refine JM rfl rfl ?_
  refine JM rfl rfl ?_
  refine JQ (Q_invokeRow findsLess (rowLess_c (d) (b) (a) (by first | omega | (simp only [Sort.size_swp]; omega)) (by first | omega | (simp only [Sort.size_swp]; omega))) (.tmp rfl) ⟨(.tmp rfl), (.tmp rfl), trivial⟩ (by repeat first | exact R0 | apply RT)) rfl ?_
  refine JN ?_
  refine J_cond (.tmp rfl) (fun h0 => ?_) (fun h0 => ?_)
  · try simp only [BS, ne_eq] at h0
    refine JSR ?_
    refine JM rfl rfl ?_
    refine JQ (Q_nilChkP (.tmp rfl)) rfl ?_
    refine JQ (Q_loadB (.tmp rfl) (by repeat first | exact R0 | apply RT) Lens.id T3 (by (try dsimp only) <;> rfl)) rfl ?_
    refine JQ (Q_addi (.tmp rfl) At.int (by first | omega | simp <;> omega) (by first | omega | simp <;> omega)) rfl ?_
    refine JQ (Q_nilChkP (.tmp rfl)) rfl ?_
    refine J_store (.tmp rfl) (.tmp rfl) (by (try dsimp only) <;> rfl) (by repeat first | exact R1 | apply RT) Lens.id T3.size ?_
    refine JNSR ?_
    refine JM rfl rfl ?_
    refine JM rfl rfl ?_
    refine JA rfl rfl ?_
    refine JA rfl rfl ?_
    refine JN ?_
    refine J_retc ?_
    refine J_then_ret ?_
    have e : Sort.order2 ltO d a b s = (b, a, s + 1) := by unfold Sort.order2; rw [if_pos h0]
    exact J_ret2 rfl (ResAt.tmp rfl) (ResAt.tmp rfl) () trivial (Split.take (by repeat first | exact R0 | apply RT) (Split.take (Repl.box (by repeat first | exact R0 | apply RT) (by rw [e]; simp)) Split.nil)) (imp_eq (by rw [e]))
  try simp only [BS, ne_eq] at h0
  refine J_skip ?_
  refine J_then_normal ?_
  refine JSR ?_
  refine JM rfl rfl ?_
  refine JM rfl rfl ?_
  refine JA rfl rfl ?_
  refine JA rfl rfl ?_
  refine JN ?_
  refine J_retc ?_
  have e : Sort.order2 ltO d a b s = (a, b, s) := by unfold Sort.order2; rw [if_neg (by rw [h0]; simp)]
  exact J_ret2 rfl (ResAt.tmp rfl) (ResAt.tmp rfl) () trivial (Split.take (by repeat first | exact R0 | apply RT) (Split.take (Repl.box (by repeat first | exact R0 | apply RT) (by rw [e])) Split.nil)) (imp_eq (by rw [e]))
theorem order2_lt {d : Array Oid} {a b s n : Nat} (ha : a < n) (hb : b < n) : (Sort.order2 ltO d a b s).1 < n ∧ (Sort.order2 ltO d a b s).2.1 < n ∧ (Sort.order2 ltO d a b s).2.2 ≤ s + 1 := by
  unfold Sort.order2; split <;> simp <;> omega
theorem median_c {tb p : Nat} (v : Value) (d : Array Oid) (a b c s : Nat) (ha : a < d.size) (hb : b < d.size) (hc : c < d.size) (hs : s ≤ 900) : Fn Tryz.prog 150 [IR v, VInt .i64 (a : Nat), VInt .i64 (b : Nat), VInt .i64 (c : Nat), Ptr p 0]
    [RowR 38 v d.toList, BoxR tb p ((s : Nat) : Int)] (fun _ : Unit => True) (fun _ => VInt .i64 ((Sort.median ltO d a b c s).1 : Nat))
    (fun _ => [RowR 38 v d.toList, BoxR tb p (((Sort.median ltO d a b c s).2 : Nat) : Int)]) := by
  have q1 := order2_lt (d := d) (s := s) ha hb
  have q2 := order2_lt (d := d) (s := (Sort.order2 ltO d a b s).2.2) q1.2.1 hc
  have q3 := order2_lt (d := d) (s := (Sort.order2 ltO d (Sort.order2 ltO d a b s).2.1 c (Sort.order2 ltO d a b s).2.2).2.2) q1.1 q2.1
  refine Fn_intro (by kernel_rfl) Tryz.func150 rfl Tryz.ntmps150 rfl (fun e => ?_)
  refine JSR ?_
  refine JQ (Q_assign At.int) rfl ?_
  refine JNSR ?_
  refine JM rfl rfl ?_
  refine JM rfl rfl ?_
  refine JM rfl rfl ?_
  refine JM rfl rfl ?_
  refine J_call (order2_c _ _ _ _ _ ?_ ?_ ?_) ⟨(.tmp rfl), (.tmp rfl), (.tmp rfl), (.tmp rfl), trivial⟩ (Split.take (by repeat first | exact R0 | apply RT) (Split.take (by repeat first | exact R0 | apply RT) Split.nil)) rfl (fun r16 hr16 => ?_)
  · exact (by first | omega | simp <;> omega)
  · exact (by first | omega | simp <;> omega)
  · exact (by first | omega | simp <;> omega)
  refine JM rfl rfl ?_
  refine JQ (Q_extract (.tmp rfl) rfl) rfl ?_
  refine JQ (Q_extract (.tmp rfl) rfl) rfl ?_
  refine JA rfl rfl ?_
  refine JA rfl rfl ?_
  refine JNSR ?_
  refine JM rfl rfl ?_
  refine JM rfl rfl ?_
  refine JM rfl rfl ?_
  refine JM rfl rfl ?_
  refine J_call (order2_c _ _ _ _ _ ?_ ?_ ?_) ⟨(.tmp rfl), (.tmp rfl), (.tmp rfl), (.tmp rfl), trivial⟩ (Split.take (by repeat first | exact R0 | apply RT) (Split.take (by repeat first | exact R0 | apply RT) Split.nil)) rfl (fun r24 hr24 => ?_)
  · exact (by first | omega | simp <;> omega)
  · exact (by first | omega | simp <;> omega)
  · exact (by first | omega | simp <;> omega)
  refine JM rfl rfl ?_
  refine JQ (Q_extract (.tmp rfl) rfl) rfl ?_
  refine JQ (Q_extract (.tmp rfl) rfl) rfl ?_
  refine JA rfl rfl ?_
  refine JA rfl rfl ?_
  refine JNSR ?_
  refine JM rfl rfl ?_
  refine JM rfl rfl ?_
  refine JM rfl rfl ?_
  refine JM rfl rfl ?_
  refine J_call (order2_c _ _ _ _ _ ?_ ?_ ?_) ⟨(.tmp rfl), (.tmp rfl), (.tmp rfl), (.tmp rfl), trivial⟩ (Split.take (by repeat first | exact R0 | apply RT) (Split.take (by repeat first | exact R0 | apply RT) Split.nil)) rfl (fun r32 hr32 => ?_)
  · exact (by first | omega | simp <;> omega)
  · exact (by first | omega | simp <;> omega)
  · exact (by first | omega | simp <;> omega)
  refine JM rfl rfl ?_
  refine JQ (Q_extract (.tmp rfl) rfl) rfl ?_
  refine JQ (Q_extract (.tmp rfl) rfl) rfl ?_
  refine JA rfl rfl ?_
  refine JA rfl rfl ?_
  refine JNSR ?_
  refine JM rfl rfl ?_
  refine JA rfl rfl ?_
  refine JN ?_
  refine J_retc ?_
  exact J_ret1 rfl (ResAt.tmp rfl) () trivial (Split.take (by repeat first | exact R0 | apply RT) (Split.take (by repeat first | exact R0 | apply RT) Split.nil)) imp_refl
theorem medAdj_c {tb p : Nat} (v : Value) (d : Array Oid) (a s : Nat) (ha : 0 < a) (hb : a + 1 < d.size) (hs : s ≤ 900) (hz : d.size ≤ 1152921504606846976) : Fn Tryz.prog 149 [IR v, VInt .i64 (a : Nat), Ptr p 0]
    [RowR 38 v d.toList, BoxR tb p ((s : Nat) : Int)] (fun _ : Unit => True) (fun _ => VInt .i64 ((Sort.medianAdjacent ltO d a s).1 : Nat))
    (fun _ => [RowR 38 v d.toList, BoxR tb p (((Sort.medianAdjacent ltO d a s).2 : Nat) : Int)]) := by
  refine Fn_intro (by kernel_rfl) Tryz.func149 rfl Tryz.ntmps149 rfl (fun e => ?_)
  refine JSR ?_
  refine JQ (Q_assign At.int) rfl ?_
  refine JNSR ?_
  refine JM rfl rfl ?_
  refine JM rfl rfl ?_
  refine JQ (Quiet.imp (Q_subi (.tmp rfl) At.int (by first | omega | simp <;> omega) (by first | omega | simp <;> omega)) (imp_eq (vint_eq (show _ = ((a - 1 : Nat) : Int) by first | omega | (simp; omega))))) rfl ?_
  refine JM rfl rfl ?_
  refine JM rfl rfl ?_
  refine JQ (Quiet.imp (Q_addi (.tmp rfl) At.int (by first | omega | simp <;> omega) (by first | omega | simp <;> omega)) (imp_eq (vint_eq (show _ = ((a + 1 : Nat) : Int) by first | omega | (simp; omega))))) rfl ?_
  refine JM rfl rfl ?_
  refine J_call (median_c _ _ _ _ _ _ ?_ ?_ ?_ ?_) ⟨(.tmp rfl), (.tmp rfl), (.tmp rfl), (.tmp rfl), (.tmp rfl), trivial⟩ (Split.take (by repeat first | exact R0 | apply RT) (Split.take (by repeat first | exact R0 | apply RT) Split.nil)) rfl (fun r14 hr14 => ?_)
  · exact (by first | omega | simp <;> omega)
  · exact (by first | omega | simp <;> omega)
  · exact (by first | omega | simp <;> omega)
  · exact (by first | omega | simp <;> omega)
  refine JA rfl rfl ?_
  refine JN ?_
  refine J_retc ?_
  exact J_ret1 rfl (ResAt.tmp rfl) () trivial (Split.take (by repeat first | exact R0 | apply RT) (Split.take (by repeat first | exact R0 | apply RT) Split.nil)) imp_refl
end Go.Sep
namespace Go.Sort
variable {α : Type} [Inhabited α] {lt : α → α → Bool}
theorem scanUp_go {p : α → Bool} {d : Array α} {j i : Nat} (h : i ≤ j) (h2 : p d[i]! = true) : scanUp p d j i = scanUp p d j (i + 1) := by
  rw [scanUp, if_pos (by simp [h, h2])]
theorem scanUp_stop {p : α → Bool} {d : Array α} {j i : Nat} (h : ¬ i ≤ j ∨ p d[i]! = false) : scanUp p d j i = i := by
  rw [scanUp, if_neg (by rcases h with h | h <;> simp [h])]
theorem scanDown_go {p : α → Bool} {d : Array α} {j i : Nat} (h0 : 0 < j) (h : i ≤ j) (h2 : p d[j]! = true) : scanDown p d i j = scanDown p d i (j - 1) := by
  obtain ⟨j, rfl⟩ : ∃ m, j = m + 1 := ⟨j - 1, by omega⟩
  rw [scanDown, if_pos (by simp [h, h2])]; rfl
theorem scanDown_stop {p : α → Bool} {d : Array α} {j i : Nat} (h0 : 0 < i) (h : ¬ i ≤ j ∨ p d[j]! = false) : scanDown p d i j = j := by
  cases j with
  | zero => rfl
  | succ j => rw [scanDown, if_neg (by rcases h with h | h <;> simp [h])]
theorem partLoop_stop {a i j i2 j2 : Nat} {d : Array α} (hi : scanUp (fun x => lt x d[a]!) d j i = i2) (hj : scanDown (fun x => !lt x d[a]!) d i2 j = j2) (h : j2 < i2) : partLoop lt a i j d = (j2, d) := by
  subst hi hj; rw [partLoop_eq]; rw [if_pos h]
theorem partLoop_go {a i j i2 j2 : Nat} {d : Array α} (hi : scanUp (fun x => lt x d[a]!) d j i = i2) (hj : scanDown (fun x => !lt x d[a]!) d i2 j = j2) (h : ¬ j2 < i2) : partLoop lt a i j d = partLoop lt a (i2 + 1) (j2 - 1) (swp d i2 j2) := by
  subst hi hj; rw [partLoop_eq]; rw [if_neg h]
theorem partition_out {d0 d1 : Array α} {a b pv i j : Nat} (h1 : swp d0 a pv = d1) (hi : scanUp (fun x => lt x d1[a]!) d1 (b - 1) (a + 1) = i) (hj : scanDown (fun x => !lt x d1[a]!) d1 i (b - 1) = j) (h : j < i) :
    partition lt d0 a b pv = (j, true, swp d1 j a) := by
  subst h1 hi hj; unfold partition; simp only; rw [if_pos h]
theorem partition_go {d0 d1 : Array α} {a b pv i j : Nat} {r : Nat × Array α} (h1 : swp d0 a pv = d1) (hi : scanUp (fun x => lt x d1[a]!) d1 (b - 1) (a + 1) = i) (hj : scanDown (fun x => !lt x d1[a]!) d1 i (b - 1) = j) (h : ¬ j < i)
    (hr : partLoop lt a (i + 1) (j - 1) (swp d1 i j) = r) : partition lt d0 a b pv = (r.1, false, swp r.2 r.1 a) := by
  subst h1 hi hj hr; unfold partition; simp only; rw [if_neg h]
theorem partEqLoop_stop {a i j i2 j2 : Nat} {d : Array α} (hi : scanUp (fun x => !lt d[a]! x) d j i = i2) (hj : scanDown (fun x => lt d[a]! x) d i2 j = j2) (h : j2 < i2) : partEqLoop lt a i j d = (i2, d) := by
  subst hi hj; rw [partEqLoop_eq]; rw [if_pos h]
theorem partEqLoop_go {a i j i2 j2 : Nat} {d : Array α} (hi : scanUp (fun x => !lt d[a]! x) d j i = i2) (hj : scanDown (fun x => lt d[a]! x) d i2 j = j2) (h : ¬ j2 < i2) : partEqLoop lt a i j d = partEqLoop lt a (i2 + 1) (j2 - 1) (swp d i2 j2) := by
  subst hi hj; rw [partEqLoop_eq]; rw [if_neg h]
theorem scanSorted_go {d : Array α} {b i : Nat} (h : i < b) (h2 : lt d[i]! d[i - 1]! = false) : scanSorted lt d b i = scanSorted lt d b (i + 1) := by
  rw [scanSorted, if_pos (by simp [h, h2])]
theorem scanSorted_stop {d : Array α} {b i : Nat} (h : ¬ i < b ∨ lt d[i]! d[i - 1]! = true) : scanSorted lt d b i = i := by
  rw [scanSorted, if_neg (by rcases h with h | h <;> simp [h])]
theorem shiftDown_go {d : Array α} {j : Nat} (h : 0 < j) (h2 : lt d[j]! d[j - 1]! = true) : shiftDown lt j d = shiftDown lt (j - 1) (swp d j (j - 1)) := by
  obtain ⟨j, rfl⟩ : ∃ m, j = m + 1 := ⟨j - 1, by omega⟩
  rw [shiftDown, if_neg (by simpa using h2)]; rfl
theorem shiftDown_stop {d : Array α} {j : Nat} (h : j = 0 ∨ lt d[j]! d[j - 1]! = false) : shiftDown lt j d = d := by
  cases j with
  | zero => rfl
  | succ j => rw [shiftDown, if_pos (by rcases h with h | h; (cases h); simpa using h)]
theorem shiftUp_go {d : Array α} {b j : Nat} (h : j < b) (h2 : lt d[j]! d[j - 1]! = true) : shiftUp lt b j d = shiftUp lt b (j + 1) (swp d j (j - 1)) := by
  rw [shiftUp, if_pos h, if_neg (by simp [h2])]
theorem shiftUp_stop {d : Array α} {b j : Nat} (h : ¬ j < b ∨ lt d[j]! d[j - 1]! = false) : shiftUp lt b j d = d := by
  rw [shiftUp]
  by_cases h1 : j < b
  · rw [if_pos h1, if_pos (by rcases h with h | h; (exact absurd h1 h); simp [h])]
  · rw [if_neg h1]
def stepIns (lt : α → α → Bool) (a b i : Nat) (d : Array α) : Array α :=
  let d1 := swp d i (i - 1)
  let d2 := if i - a ≥ 2 then shiftDown lt (i - 1) d1 else d1
  if b - i ≥ 2 then shiftUp lt b (i + 1) d2 else d2
theorem partialIns_done {a b s i i2 : Nat} {d : Array α} (hi : scanSorted lt d b i = i2) (h : i2 = b) : partialIns lt a b (s + 1) i d = (d, true) := by
  subst hi; unfold partialIns; simp only; rw [if_pos h]
theorem partialIns_short {a b s i i2 : Nat} {d : Array α} (hi : scanSorted lt d b i = i2) (h : ¬ i2 = b) (h2 : b - a < 50) : partialIns lt a b (s + 1) i d = (d, false) := by
  subst hi; unfold partialIns; simp only; rw [if_neg h, if_pos h2]
theorem partialIns_go {a b s i i2 : Nat} {d : Array α} (hi : scanSorted lt d b i = i2) (h : ¬ i2 = b) (h2 : ¬ b - a < 50) : partialIns lt a b (s + 1) i d = partialIns lt a b s i2 (stepIns lt a b i2 d) := by
  subst hi; rw [partialIns]; simp only; rw [if_neg h, if_neg h2]; rfl
end Go.Sort
namespace Go.Sep
open Go Go.Proofs
open Enc (V)
attribute [local irreducible] Quiet QStep J At FnX Fn FnP Repl Split Has Post Back GoZ
theorem partition_c (v : Value) (d0 : Array Oid) (a b pv : Nat) (hap : a ≤ pv) (hpb : pv < b) (hb : b ≤ d0.size) (hs : d0.size ≤ 1152921504606846976) : Fn Tryz.prog 127 [IR v, VInt .i64 (a : Nat), VInt .i64 (b : Nat), VInt .i64 (pv : Nat)]
    [RowR 38 v d0.toList] (fun _ : Unit => True) (fun _ => VTup [VInt .i64 ((Sort.partition ltO d0 a b pv).1 : Nat), VBool (Sort.partition ltO d0 a b pv).2.1]) (fun _ => [RowR 38 v (Sort.partition ltO d0 a b pv).2.2.toList]) := by
  refine Fn_intro (by kernel_rfl) Tryz.func127 rfl Tryz.ntmps127 rfl (fun e => ?_)
  refine JSR ?_
  refine JQ (Q_assign At.int) rfl ?_
  refine JQ (Q_assign At.bool) rfl ?_
  refine JNSR ?_
  refine JM rfl rfl ?_
  refine JM rfl rfl ?_
  refine JM rfl rfl ?_
  refine J_invoke findsSwap (rowSwap_c _ (d0) (a) (pv) ?_ ?_) (.tmp rfl) ⟨(.tmp rfl), (.tmp rfl), trivial⟩ (Split.take (by repeat first | exact R0 | apply RT) Split.nil) rfl (fun r15 hr15 => ?_)
  · first | omega | (simp only [Sort.size_swp]; omega)
  · first | omega | (simp only [Sort.size_swp]; omega)
  refine JN ?_
  refine J_seq ?_
  generalize hd1 : Sort.swp d0 a pv = d1
  have hz1 : d1.size = d0.size := by rw [← hd1, Sort.size_swp]
  refine J_region ?_
  refine JM rfl rfl ?_
  refine JQ (Quiet.imp (Q_addi (.tmp rfl) At.int (by first | omega | simp <;> omega) (by first | omega | simp <;> omega)) (imp_eq (vint_eq (show _ = ((a + 1 : Nat) : Int) by first | omega | (simp; omega))))) rfl ?_
  refine JM rfl rfl ?_
  refine JQ (Quiet.imp (Q_subi (.tmp rfl) At.int (by first | omega | simp <;> omega) (by first | omega | simp <;> omega)) (imp_eq (vint_eq (show _ = ((b - 1 : Nat) : Int) by first | omega | (simp; omega))))) rfl ?_
  refine JA rfl rfl ?_
  refine JA rfl rfl ?_
  refine JN ?_
  refine J_seq ?_
  refine J_block ?_
  refine J_loopU (ι := Nat) (fun i => a < i ∧ i ≤ b ∧ Sort.scanUp (fun x => ltO x d1[a]!) d1 (b - 1) i = Sort.scanUp (fun x => ltO x d1[a]!) d1 (b - 1) (a + 1)) (fun i => [(10, VInt .i64 (i : Nat))]) [(0, _), (1, _), (8, _), (9, _), (11, _)] (fun i => [RowR 38 v d1.toList]) (fun i => b - i) (a + 1) ⟨by omega, by omega, rfl⟩ ⟨fe rfl (by first | rfl | exact vint_eq (by first | omega | simp <;> omega) | exact vsl_eq (by simp) | exact vstr_eq (by simp)), trivial⟩ ⟨rfl, rfl, rfl, rfl, rfl, trivial⟩ (Has.take (Repl.row (by repeat first | exact R0 | apply RT) (by first | rfl | simp)) Has.nil) (fun i hq => ?_)
  obtain ⟨hi, hib, hti⟩ := hq
  refine J_seq ?_
  refine JSR ?_
  refine JM rfl rfl ?_
  refine JM rfl rfl ?_
  refine JQ (Q_leq (.tmp rfl) (.tmp rfl)) rfl ?_
  refine JM rfl rfl ?_
  refine J_qstep (QG rfl rfl rfl rfl rfl opt_bool (fun hg => Q_move (.tmp rfl))) rfl rfl ?_
  refine J_qstep (QG rfl rfl rfl rfl rfl opt_bool (fun hg => Q_move (.tmp rfl))) rfl rfl ?_
  refine J_qstep (QG rfl rfl rfl rfl rfl opt_bool (fun hg => Q_move (.tmp rfl))) rfl rfl ?_
  refine J_qstep (QG rfl rfl rfl rfl rfl opt_bool (fun hg => (by have hg0 := hg; simp only [BS, ne_eq] at hg0; exact Q_invokeRow findsLess (rowLess_c (d1) (i) (a) (by first | omega | (simp only [Sort.size_swp]; omega)) (by first | omega | (simp only [Sort.size_swp]; omega))) (At.opt rfl (by first | exact hg | (simp only [BS, ne_eq] at hg ⊢; first | exact hg | simp_all))) ⟨(At.opt rfl (by first | exact hg | (simp only [BS, ne_eq] at hg ⊢; first | exact hg | simp_all))), (At.opt rfl (by first | exact hg | (simp only [BS, ne_eq] at hg ⊢; first | exact hg | simp_all))), trivial⟩ (by repeat first | exact R0 | apply RT)))) rfl rfl ?_
  refine JQ (Q_andB (.tmp rfl) (fun hb => At.opt rfl (by simp only [BS, ne_eq] at hb ⊢; first | exact hb | simp_all))) rfl ?_
  refine JN ?_
  refine J_cond (.tmp rfl) (fun h0 => ?_) (fun h0 => ?_)
  · try simp only [BS, ne_eq] at h0
    refine J_skip ?_
    refine J_then_normal ?_
    refine J_block ?_
    refine J_region ?_
    refine JM rfl rfl ?_
    refine JQ (Q_addi (.tmp rfl) At.int (by first | omega | simp <;> omega) (by first | omega | simp <;> omega)) rfl ?_
    refine JA rfl rfl ?_
    refine J_nil ?_
    refine J_blk_normal ?_
    refine J_then_normal ?_
    refine J_back (i + 1) ?_ ?_ ?_ ?_
    · exact ⟨⟨by omega, by omega, by rw [← hti]; exact (Sort.scanUp_go (p := fun x => ltO x d1[a]!) (by first | omega | simp <;> omega) h0.2).symm⟩, by omega⟩
    · exact ⟨fe rfl (by first | rfl | exact vint_eq (by first | omega | simp <;> omega) | exact vsl_eq (by simp) | exact vstr_eq (by simp)), trivial⟩
    · exact ⟨rfl, rfl, rfl, rfl, rfl, trivial⟩
    · exact (Has.take (Repl.row (by repeat first | exact R0 | apply RT) (by first | rfl | simp)) Has.nil)
  try simp only [BS, ne_eq] at h0
  refine J_exit ?_
  refine J_then_exit ?_
  refine J_then_exit ?_
  refine J_blk_out ?_
  refine J_then_normal ?_
  refine J_seq ?_
  refine J_block ?_
  have ei := Sort.scanUp_stop (p := fun x => ltO x d1[a]!) (d := d1) (j := b - 1) (i := i) (by rcases h0 with h0 | h0; (exact .inl (by first | omega | simp <;> omega)); exact .inr h0)
  rw [hti] at ei
  refine J_loopU (ι := Nat) (fun j => i ≤ j + 1 ∧ j < b ∧ Sort.scanDown (fun x => !ltO x d1[a]!) d1 i j = Sort.scanDown (fun x => !ltO x d1[a]!) d1 i (b - 1)) (fun j => [(11, VInt .i64 (j : Nat))]) [(0, _), (1, _), (8, _), (9, _), (10, _)] (fun j => [RowR 38 v d1.toList]) (fun j => j) (b - 1) ⟨by omega, by omega, rfl⟩ ⟨fe rfl (by first | rfl | exact vint_eq (by first | omega | simp <;> omega) | exact vsl_eq (by simp) | exact vstr_eq (by simp)), trivial⟩ ⟨rfl, rfl, rfl, rfl, rfl, trivial⟩ (Has.take (Repl.row (by repeat first | exact R0 | apply RT) (by first | rfl | simp)) Has.nil) (fun j hq_1 => ?_)
  obtain ⟨hij, hjb, htj⟩ := hq_1
  refine J_seq ?_
  refine JSR ?_
  refine JM rfl rfl ?_
  refine JM rfl rfl ?_
  refine JQ (Q_leq (.tmp rfl) (.tmp rfl)) rfl ?_
  refine JM rfl rfl ?_
  refine J_qstep (QG rfl rfl rfl rfl rfl opt_bool (fun hg => Q_move (.tmp rfl))) rfl rfl ?_
  refine J_qstep (QG rfl rfl rfl rfl rfl opt_bool (fun hg => Q_move (.tmp rfl))) rfl rfl ?_
  refine J_qstep (QG rfl rfl rfl rfl rfl opt_bool (fun hg => Q_move (.tmp rfl))) rfl rfl ?_
  refine J_qstep (QG rfl rfl rfl rfl rfl opt_bool (fun hg => (by have hg0 := hg; simp only [BS, ne_eq] at hg0; exact Q_invokeRow findsLess (rowLess_c (d1) (j) (a) (by first | omega | (simp only [Sort.size_swp]; omega)) (by first | omega | (simp only [Sort.size_swp]; omega))) (At.opt rfl (by first | exact hg | (simp only [BS, ne_eq] at hg ⊢; first | exact hg | simp_all))) ⟨(At.opt rfl (by first | exact hg | (simp only [BS, ne_eq] at hg ⊢; first | exact hg | simp_all))), (At.opt rfl (by first | exact hg | (simp only [BS, ne_eq] at hg ⊢; first | exact hg | simp_all))), trivial⟩ (by repeat first | exact R0 | apply RT)))) rfl rfl ?_
  refine J_qstep (QG rfl rfl rfl rfl rfl opt_bool (fun hg => (by have hg0 := hg; simp only [BS, ne_eq] at hg0; exact Q_not (At.opt rfl (by first | exact hg | (simp only [BS, ne_eq] at hg ⊢; first | exact hg | simp_all)))))) rfl rfl ?_
  refine JQ (Q_andB (.tmp rfl) (fun hb => At.opt rfl (by simp only [BS, ne_eq] at hb ⊢; first | exact hb | simp_all))) rfl ?_
  refine JN ?_
  refine J_cond (.tmp rfl) (fun h1 => ?_) (fun h1 => ?_)
  · try simp only [BS, ne_eq] at h1
    refine J_skip ?_
    refine J_then_normal ?_
    refine J_block ?_
    refine J_region ?_
    refine JM rfl rfl ?_
    refine JQ (Quiet.imp (Q_subi (.tmp rfl) At.int (by first | omega | simp <;> omega) (by first | omega | simp <;> omega)) (imp_eq (vint_eq (show _ = ((j - 1 : Nat) : Int) by first | omega | (simp; omega))))) rfl ?_
    refine JA rfl rfl ?_
    refine J_nil ?_
    refine J_blk_normal ?_
    refine J_then_normal ?_
    refine J_back (j - 1) ?_ ?_ ?_ ?_
    · exact ⟨⟨by omega, by omega, by rw [← htj]; exact (Sort.scanDown_go (p := fun x => !ltO x d1[a]!) (by first | omega | simp <;> omega) (by first | omega | simp <;> omega) (by simp [h1.2])).symm⟩, by omega⟩
    · exact ⟨fe rfl (by first | rfl | exact vint_eq (by first | omega | simp <;> omega) | exact vsl_eq (by simp) | exact vstr_eq (by simp)), trivial⟩
    · exact ⟨rfl, rfl, rfl, rfl, rfl, trivial⟩
    · exact (Has.take (Repl.row (by repeat first | exact R0 | apply RT) (by first | rfl | simp)) Has.nil)
  try simp only [BS, ne_eq] at h1
  refine J_exit ?_
  refine J_then_exit ?_
  refine J_then_exit ?_
  refine J_blk_out ?_
  refine J_then_normal ?_
  refine J_seq ?_
  refine JSR ?_
  have ej := Sort.scanDown_stop (p := fun x => !ltO x d1[a]!) (d := d1) (i := i) (j := j) (by first | omega | simp <;> omega) (by rcases h1 with h1 | h1; (exact .inl (by first | omega | simp <;> omega)); exact .inr (by simp [h1]))
  rw [htj] at ej
  refine JM rfl rfl ?_
  refine JM rfl rfl ?_
  refine JQ (Q_gtr (.tmp rfl) (.tmp rfl)) rfl ?_
  refine JN ?_
  refine J_cond (.tmp rfl) (fun h2 => ?_) (fun h2 => ?_)
  · try simp only [BS, ne_eq] at h2
    refine JSR ?_
    refine JM rfl rfl ?_
    refine JM rfl rfl ?_
    refine JM rfl rfl ?_
    refine J_invoke findsSwap (rowSwap_c _ (d1) (j) (a) ?_ ?_) (.tmp rfl) ⟨(.tmp rfl), (.tmp rfl), trivial⟩ (Split.take (by repeat first | exact R0 | apply RT) Split.nil) rfl (fun r49 hr49 => ?_)
    · first | omega | (simp only [Sort.size_swp]; omega)
    · first | omega | (simp only [Sort.size_swp]; omega)
    refine JNSR ?_
    refine JM rfl rfl ?_
    refine JA rfl rfl ?_
    refine JQ (Q_assign At.bool) rfl ?_
    refine JN ?_
    refine J_retc ?_
    refine J_then_ret ?_
    have e := Sort.partition_out hd1 ei ej (by first | omega | simp <;> omega)
    exact J_ret2 rfl (ResAt.tmp rfl) (ResAt.tmp rfl) () trivial (Split.take (Repl.row (by repeat first | exact R0 | apply RT) (by rw [e])) Split.nil) (imp_eq (by rw [e]))
  try simp only [BS, ne_eq] at h2
  refine J_skip ?_
  refine J_then_normal ?_
  refine JSR ?_
  refine JM rfl rfl ?_
  refine JM rfl rfl ?_
  refine JM rfl rfl ?_
  refine J_invoke findsSwap (rowSwap_c _ (d1) (i) (j) ?_ ?_) (.tmp rfl) ⟨(.tmp rfl), (.tmp rfl), trivial⟩ (Split.take (by repeat first | exact R0 | apply RT) Split.nil) rfl (fun r54 hr54 => ?_)
  · first | omega | (simp only [Sort.size_swp]; omega)
  · first | omega | (simp only [Sort.size_swp]; omega)
  refine JNSR ?_
  refine JM rfl rfl ?_
  refine JQ (Quiet.imp (Q_addi (.tmp rfl) At.int (by first | omega | simp <;> omega) (by first | omega | simp <;> omega)) (imp_eq (vint_eq (show _ = ((i + 1 : Nat) : Int) by first | omega | (simp; omega))))) rfl ?_
  refine JA rfl rfl ?_
  refine JNSR ?_
  refine JM rfl rfl ?_
  refine JQ (Quiet.imp (Q_subi (.tmp rfl) At.int (by first | omega | simp <;> omega) (by first | omega | simp <;> omega)) (imp_eq (vint_eq (show _ = ((j - 1 : Nat) : Int) by first | omega | (simp; omega))))) rfl ?_
  refine JA rfl rfl ?_
  refine JN ?_
  refine J_seq ?_
  refine J_block ?_
  refine J_loopU (ι := Nat × Nat × Array Oid) (fun q => match q with | (i2, j2, d) => a < i2 ∧ a ≤ j2 ∧ i2 ≤ j2 + 2 ∧ j2 < b ∧ d.size = d0.size ∧ Sort.partLoop ltO a i2 j2 d = Sort.partLoop ltO a (i + 1) (j - 1) (Sort.swp d1 i j)) (fun q => match q with | (i2, j2, d) => [(10, VInt .i64 (i2 : Nat)), (11, VInt .i64 (j2 : Nat))]) [(0, _), (1, _), (8, _), (9, _)] (fun q => match q with | (i2, j2, d) => [RowR 38 v d.toList]) (fun q => match q with | (i2, j2, d) => j2 + 2 - i2) ((i + 1, j - 1, Sort.swp d1 i j)) ⟨by omega, by omega, by omega, by omega, by rw [Sort.size_swp]; exact hz1, rfl⟩ ⟨fe rfl (by first | rfl | exact vint_eq (by first | omega | simp <;> omega) | exact vsl_eq (by simp) | exact vstr_eq (by simp)), fe rfl (by first | rfl | exact vint_eq (by first | omega | simp <;> omega) | exact vsl_eq (by simp) | exact vstr_eq (by simp)), trivial⟩ ⟨rfl, rfl, rfl, rfl, trivial⟩ (Has.take (Repl.row (by repeat first | exact R0 | apply RT) (by first | rfl | simp)) Has.nil) (fun q hq_2 => ?_)
  obtain ⟨i2, j2, d⟩ := q
  try dsimp only at hq_2
  obtain ⟨hi2, haj2, hij2, hjb2, hz, htl⟩ := hq_2
  refine J_block ?_
  refine J_seq ?_
  refine J_block ?_
  refine J_loopU (ι := Nat) (fun i3 => i2 ≤ i3 ∧ (i3 ≤ j2 + 1 ∨ i3 = i2) ∧ Sort.scanUp (fun x => ltO x d[a]!) d j2 i3 = Sort.scanUp (fun x => ltO x d[a]!) d j2 i2) (fun i3 => [(10, VInt .i64 (i3 : Nat))]) [(0, _), (1, _), (8, _), (9, _), (11, _)] (fun i3 => [RowR 38 v d.toList]) (fun i3 => b - i3) (i2) ⟨by omega, by omega, rfl⟩ ⟨fe rfl (by first | rfl | exact vint_eq (by first | omega | simp <;> omega) | exact vsl_eq (by simp) | exact vstr_eq (by simp)), trivial⟩ ⟨rfl, rfl, rfl, rfl, rfl, trivial⟩ (Has.take (Repl.row (by repeat first | exact R0 | apply RT) (by first | rfl | simp)) Has.nil) (fun i3 hq_3 => ?_)
  obtain ⟨hi3, hib3, hti3⟩ := hq_3
  refine J_seq ?_
  refine JSR ?_
  refine JM rfl rfl ?_
  refine JM rfl rfl ?_
  refine JQ (Q_leq (.tmp rfl) (.tmp rfl)) rfl ?_
  refine JM rfl rfl ?_
  refine J_qstep (QG rfl rfl rfl rfl rfl opt_bool (fun hg => Q_move (.tmp rfl))) rfl rfl ?_
  refine J_qstep (QG rfl rfl rfl rfl rfl opt_bool (fun hg => Q_move (.tmp rfl))) rfl rfl ?_
  refine J_qstep (QG rfl rfl rfl rfl rfl opt_bool (fun hg => Q_move (.tmp rfl))) rfl rfl ?_
  refine J_qstep (QG rfl rfl rfl rfl rfl opt_bool (fun hg => (by have hg0 := hg; simp only [BS, ne_eq] at hg0; exact Q_invokeRow findsLess (rowLess_c (d) (i3) (a) (by first | omega | (simp only [Sort.size_swp]; omega)) (by first | omega | (simp only [Sort.size_swp]; omega))) (At.opt rfl (by first | exact hg | (simp only [BS, ne_eq] at hg ⊢; first | exact hg | simp_all))) ⟨(At.opt rfl (by first | exact hg | (simp only [BS, ne_eq] at hg ⊢; first | exact hg | simp_all))), (At.opt rfl (by first | exact hg | (simp only [BS, ne_eq] at hg ⊢; first | exact hg | simp_all))), trivial⟩ (by repeat first | exact R0 | apply RT)))) rfl rfl ?_
  refine JQ (Q_andB (.tmp rfl) (fun hb => At.opt rfl (by simp only [BS, ne_eq] at hb ⊢; first | exact hb | simp_all))) rfl ?_
  refine JN ?_
  refine J_cond (.tmp rfl) (fun h3 => ?_) (fun h3 => ?_)
  · try simp only [BS, ne_eq] at h3
    refine J_skip ?_
    refine J_then_normal ?_
    refine J_block ?_
    refine J_region ?_
    refine JM rfl rfl ?_
    refine JQ (Q_addi (.tmp rfl) At.int (by first | omega | simp <;> omega) (by first | omega | simp <;> omega)) rfl ?_
    refine JA rfl rfl ?_
    refine J_nil ?_
    refine J_blk_normal ?_
    refine J_then_normal ?_
    refine J_back (i3 + 1) ?_ ?_ ?_ ?_
    · exact ⟨⟨by omega, by omega, by rw [← hti3]; exact (Sort.scanUp_go (p := fun x => ltO x d[a]!) (by first | omega | simp <;> omega) h3.2).symm⟩, by omega⟩
    · exact ⟨fe rfl (by first | rfl | exact vint_eq (by first | omega | simp <;> omega) | exact vsl_eq (by simp) | exact vstr_eq (by simp)), trivial⟩
    · exact ⟨rfl, rfl, rfl, rfl, rfl, trivial⟩
    · exact (Has.take (Repl.row (by repeat first | exact R0 | apply RT) (by first | rfl | simp)) Has.nil)
  try simp only [BS, ne_eq] at h3
  refine J_exit ?_
  refine J_then_exit ?_
  refine J_then_exit ?_
  refine J_blk_out ?_
  refine J_then_normal ?_
  refine J_seq ?_
  refine J_block ?_
  have ei3 := Sort.scanUp_stop (p := fun x => ltO x d[a]!) (d := d) (j := j2) (i := i3) (by rcases h3 with h3 | h3; (exact .inl (by first | omega | simp <;> omega)); exact .inr h3)
  rw [hti3] at ei3
  refine J_loopU (ι := Nat) (fun j4 => a ≤ j4 ∧ j4 ≤ j2 ∧ Sort.scanDown (fun x => !ltO x d[a]!) d i3 j4 = Sort.scanDown (fun x => !ltO x d[a]!) d i3 j2) (fun j4 => [(11, VInt .i64 (j4 : Nat))]) [(0, _), (1, _), (8, _), (9, _), (10, _)] (fun j4 => [RowR 38 v d.toList]) (fun j4 => j4) (j2) ⟨by omega, by omega, rfl⟩ ⟨fe rfl (by first | rfl | exact vint_eq (by first | omega | simp <;> omega) | exact vsl_eq (by simp) | exact vstr_eq (by simp)), trivial⟩ ⟨rfl, rfl, rfl, rfl, rfl, trivial⟩ (Has.take (Repl.row (by repeat first | exact R0 | apply RT) (by first | rfl | simp)) Has.nil) (fun j4 hq_4 => ?_)
  obtain ⟨haj4, hjb4, htj4⟩ := hq_4
  refine J_seq ?_
  refine JSR ?_
  refine JM rfl rfl ?_
  refine JM rfl rfl ?_
  refine JQ (Q_leq (.tmp rfl) (.tmp rfl)) rfl ?_
  refine JM rfl rfl ?_
  refine J_qstep (QG rfl rfl rfl rfl rfl opt_bool (fun hg => Q_move (.tmp rfl))) rfl rfl ?_
  refine J_qstep (QG rfl rfl rfl rfl rfl opt_bool (fun hg => Q_move (.tmp rfl))) rfl rfl ?_
  refine J_qstep (QG rfl rfl rfl rfl rfl opt_bool (fun hg => Q_move (.tmp rfl))) rfl rfl ?_
  refine J_qstep (QG rfl rfl rfl rfl rfl opt_bool (fun hg => (by have hg0 := hg; simp only [BS, ne_eq] at hg0; exact Q_invokeRow findsLess (rowLess_c (d) (j4) (a) (by first | omega | (simp only [Sort.size_swp]; omega)) (by first | omega | (simp only [Sort.size_swp]; omega))) (At.opt rfl (by first | exact hg | (simp only [BS, ne_eq] at hg ⊢; first | exact hg | simp_all))) ⟨(At.opt rfl (by first | exact hg | (simp only [BS, ne_eq] at hg ⊢; first | exact hg | simp_all))), (At.opt rfl (by first | exact hg | (simp only [BS, ne_eq] at hg ⊢; first | exact hg | simp_all))), trivial⟩ (by repeat first | exact R0 | apply RT)))) rfl rfl ?_
  refine J_qstep (QG rfl rfl rfl rfl rfl opt_bool (fun hg => (by have hg0 := hg; simp only [BS, ne_eq] at hg0; exact Q_not (At.opt rfl (by first | exact hg | (simp only [BS, ne_eq] at hg ⊢; first | exact hg | simp_all)))))) rfl rfl ?_
  refine JQ (Q_andB (.tmp rfl) (fun hb => At.opt rfl (by simp only [BS, ne_eq] at hb ⊢; first | exact hb | simp_all))) rfl ?_
  refine JN ?_
  refine J_cond (.tmp rfl) (fun h4 => ?_) (fun h4 => ?_)
  · try simp only [BS, ne_eq] at h4
    refine J_skip ?_
    refine J_then_normal ?_
    refine J_block ?_
    refine J_region ?_
    refine JM rfl rfl ?_
    refine JQ (Quiet.imp (Q_subi (.tmp rfl) At.int (by first | omega | simp <;> omega) (by first | omega | simp <;> omega)) (imp_eq (vint_eq (show _ = ((j4 - 1 : Nat) : Int) by first | omega | (simp; omega))))) rfl ?_
    refine JA rfl rfl ?_
    refine J_nil ?_
    refine J_blk_normal ?_
    refine J_then_normal ?_
    refine J_back (j4 - 1) ?_ ?_ ?_ ?_
    · exact ⟨⟨by omega, by omega, by rw [← htj4]; exact (Sort.scanDown_go (p := fun x => !ltO x d[a]!) (by first | omega | simp <;> omega) (by first | omega | simp <;> omega) (by simp [h4.2])).symm⟩, by omega⟩
    · exact ⟨fe rfl (by first | rfl | exact vint_eq (by first | omega | simp <;> omega) | exact vsl_eq (by simp) | exact vstr_eq (by simp)), trivial⟩
    · exact ⟨rfl, rfl, rfl, rfl, rfl, trivial⟩
    · exact (Has.take (Repl.row (by repeat first | exact R0 | apply RT) (by first | rfl | simp)) Has.nil)
  try simp only [BS, ne_eq] at h4
  refine J_exit ?_
  refine J_then_exit ?_
  refine J_then_exit ?_
  refine J_blk_out ?_
  refine J_then_normal ?_
  refine J_seq ?_
  refine JSR ?_
  have ej4 := Sort.scanDown_stop (p := fun x => !ltO x d[a]!) (d := d) (i := i3) (j := j4) (by first | omega | simp <;> omega) (by rcases h4 with h4 | h4; (exact .inl (by first | omega | simp <;> omega)); exact .inr (by simp [h4]))
  rw [htj4] at ej4
  refine JM rfl rfl ?_
  refine JM rfl rfl ?_
  refine JQ (Q_gtr (.tmp rfl) (.tmp rfl)) rfl ?_
  refine JN ?_
  refine J_cond (.tmp rfl) (fun h5 => ?_) (fun h5 => ?_)
  · try simp only [BS, ne_eq] at h5
    refine J_exit ?_
    refine J_then_exit ?_
    refine J_blk_by rfl ?_
    refine J_then_exit ?_
    refine J_blk_out ?_
    refine J_then_normal ?_
    refine JSR ?_
    refine JM rfl rfl ?_
    refine JM rfl rfl ?_
    refine JM rfl rfl ?_
    refine J_invoke findsSwap (rowSwap_c _ (d) (j4) (a) ?_ ?_) (.tmp rfl) ⟨(.tmp rfl), (.tmp rfl), trivial⟩ (Split.take (by repeat first | exact R0 | apply RT) Split.nil) rfl (fun r96 hr96 => ?_)
    · first | omega | (simp only [Sort.size_swp]; omega)
    · first | omega | (simp only [Sort.size_swp]; omega)
    refine JNSR ?_
    refine JM rfl rfl ?_
    refine JA rfl rfl ?_
    refine JQ (Q_assign At.bool) rfl ?_
    refine JN ?_
    refine J_retc ?_
    have e := Sort.partition_go hd1 ei ej (by first | omega | simp <;> omega) (htl.symm.trans (Sort.partLoop_stop ei3 ej4 (by first | omega | simp <;> omega)))
    exact J_ret2 rfl (ResAt.tmp rfl) (ResAt.tmp rfl) () trivial (Split.take (Repl.row (by repeat first | exact R0 | apply RT) (by rw [e])) Split.nil) (imp_eq (by rw [e]))
  try simp only [BS, ne_eq] at h5
  refine J_skip ?_
  refine J_then_normal ?_
  refine JSR ?_
  refine JM rfl rfl ?_
  refine JM rfl rfl ?_
  refine JM rfl rfl ?_
  refine J_invoke findsSwap (rowSwap_c _ (d) (i3) (j4) ?_ ?_) (.tmp rfl) ⟨(.tmp rfl), (.tmp rfl), trivial⟩ (Split.take (by repeat first | exact R0 | apply RT) Split.nil) rfl (fun r88 hr88 => ?_)
  · first | omega | (simp only [Sort.size_swp]; omega)
  · first | omega | (simp only [Sort.size_swp]; omega)
  refine JNSR ?_
  refine JM rfl rfl ?_
  refine JQ (Quiet.imp (Q_addi (.tmp rfl) At.int (by first | omega | simp <;> omega) (by first | omega | simp <;> omega)) (imp_eq (vint_eq (show _ = ((i3 + 1 : Nat) : Int) by first | omega | (simp; omega))))) rfl ?_
  refine JA rfl rfl ?_
  refine JNR ?_
  refine JM rfl rfl ?_
  refine JQ (Quiet.imp (Q_subi (.tmp rfl) At.int (by first | omega | simp <;> omega) (by first | omega | simp <;> omega)) (imp_eq (vint_eq (show _ = ((j4 - 1 : Nat) : Int) by first | omega | (simp; omega))))) rfl ?_
  refine JA rfl rfl ?_
  refine J_nil ?_
  refine J_blk_normal ?_
  refine J_then_normal ?_
  refine J_back ((i3 + 1, j4 - 1, Sort.swp d i3 j4)) ?_ ?_ ?_ ?_
  · exact ⟨⟨by omega, by omega, by omega, by omega, by rw [Sort.size_swp]; exact hz, by rw [← htl, Sort.partLoop_go ei3 ej4 (by first | omega | simp <;> omega)]⟩, by simp only; omega⟩
  · exact ⟨fe rfl (by first | rfl | exact vint_eq (by first | omega | simp <;> omega) | exact vsl_eq (by simp) | exact vstr_eq (by simp)), fe rfl (by first | rfl | exact vint_eq (by first | omega | simp <;> omega) | exact vsl_eq (by simp) | exact vstr_eq (by simp)), trivial⟩
  · exact ⟨rfl, rfl, rfl, rfl, trivial⟩
  · exact (Has.take (Repl.row (by repeat first | exact R0 | apply RT) (by first | rfl | simp)) Has.nil)
theorem partEq_c (v : Value) (d0 : Array Oid) (a b pv : Nat) (hap : a ≤ pv) (hpb : pv < b) (hb : b ≤ d0.size) (hs : d0.size ≤ 1152921504606846976) : Fn Tryz.prog 126 [IR v, VInt .i64 (a : Nat), VInt .i64 (b : Nat), VInt .i64 (pv : Nat)]
    [RowR 38 v d0.toList] (fun _ : Unit => True) (fun _ => VInt .i64 ((Sort.partitionEqual ltO d0 a b pv).1 : Nat)) (fun _ => [RowR 38 v (Sort.partitionEqual ltO d0 a b pv).2.toList]) := by
  refine Fn_intro (by kernel_rfl) Tryz.func126 rfl Tryz.ntmps126 rfl (fun e => ?_)
  refine JSR ?_
  refine JQ (Q_assign At.int) rfl ?_
  refine JNSR ?_
  refine JM rfl rfl ?_
  refine JM rfl rfl ?_
  refine JM rfl rfl ?_
  refine J_invoke findsSwap (rowSwap_c _ (d0) (a) (pv) ?_ ?_) (.tmp rfl) ⟨(.tmp rfl), (.tmp rfl), trivial⟩ (Split.take (by repeat first | exact R0 | apply RT) Split.nil) rfl (fun r14 hr14 => ?_)
  · first | omega | (simp only [Sort.size_swp]; omega)
  · first | omega | (simp only [Sort.size_swp]; omega)
  refine JN ?_
  refine J_seq ?_
  generalize hd1 : Sort.swp d0 a pv = d1
  have hz1 : d1.size = d0.size := by rw [← hd1, Sort.size_swp]
  refine J_region ?_
  refine JM rfl rfl ?_
  refine JQ (Quiet.imp (Q_addi (.tmp rfl) At.int (by first | omega | simp <;> omega) (by first | omega | simp <;> omega)) (imp_eq (vint_eq (show _ = ((a + 1 : Nat) : Int) by first | omega | (simp; omega))))) rfl ?_
  refine JM rfl rfl ?_
  refine JQ (Quiet.imp (Q_subi (.tmp rfl) At.int (by first | omega | simp <;> omega) (by first | omega | simp <;> omega)) (imp_eq (vint_eq (show _ = ((b - 1 : Nat) : Int) by first | omega | (simp; omega))))) rfl ?_
  refine JA rfl rfl ?_
  refine JA rfl rfl ?_
  refine JN ?_
  refine J_seq ?_
  refine J_block ?_
  refine J_loopU (ι := Nat × Nat × Array Oid) (fun q => match q with | (i2, j2, d) => a < i2 ∧ a ≤ j2 ∧ i2 ≤ j2 + 2 ∧ j2 < b ∧ d.size = d0.size ∧ Sort.partEqLoop ltO a i2 j2 d = Sort.partEqLoop ltO a (a + 1) (b - 1) d1) (fun q => match q with | (i2, j2, d) => [(9, VInt .i64 (i2 : Nat)), (10, VInt .i64 (j2 : Nat))]) [(0, _), (1, _), (8, _)] (fun q => match q with | (i2, j2, d) => [RowR 38 v d.toList]) (fun q => match q with | (i2, j2, d) => j2 + 2 - i2) ((a + 1, b - 1, d1)) ⟨by omega, by omega, by omega, by omega, hz1, rfl⟩ ⟨fe rfl (by first | rfl | exact vint_eq (by first | omega | simp <;> omega) | exact vsl_eq (by simp) | exact vstr_eq (by simp)), fe rfl (by first | rfl | exact vint_eq (by first | omega | simp <;> omega) | exact vsl_eq (by simp) | exact vstr_eq (by simp)), trivial⟩ ⟨rfl, rfl, rfl, trivial⟩ (Has.take (Repl.row (by repeat first | exact R0 | apply RT) (by first | rfl | simp)) Has.nil) (fun q hq => ?_)
  obtain ⟨i2, j2, d⟩ := q
  try dsimp only at hq
  obtain ⟨hi2, haj2, hij2, hjb2, hz, htl⟩ := hq
  refine J_block ?_
  refine J_seq ?_
  refine J_block ?_
  refine J_loopU (ι := Nat) (fun i3 => i2 ≤ i3 ∧ (i3 ≤ j2 + 1 ∨ i3 = i2) ∧ Sort.scanUp (fun x => !ltO d[a]! x) d j2 i3 = Sort.scanUp (fun x => !ltO d[a]! x) d j2 i2) (fun i3 => [(9, VInt .i64 (i3 : Nat))]) [(0, _), (1, _), (8, _), (10, _)] (fun i3 => [RowR 38 v d.toList]) (fun i3 => b - i3) (i2) ⟨by omega, by omega, rfl⟩ ⟨fe rfl (by first | rfl | exact vint_eq (by first | omega | simp <;> omega) | exact vsl_eq (by simp) | exact vstr_eq (by simp)), trivial⟩ ⟨rfl, rfl, rfl, rfl, trivial⟩ (Has.take (Repl.row (by repeat first | exact R0 | apply RT) (by first | rfl | simp)) Has.nil) (fun i3 hq_1 => ?_)
  obtain ⟨hi3, hib3, hti3⟩ := hq_1
  refine J_seq ?_
  refine JSR ?_
  refine JM rfl rfl ?_
  refine JM rfl rfl ?_
  refine JQ (Q_leq (.tmp rfl) (.tmp rfl)) rfl ?_
  refine JM rfl rfl ?_
  refine J_qstep (QG rfl rfl rfl rfl rfl opt_bool (fun hg => Q_move (.tmp rfl))) rfl rfl ?_
  refine J_qstep (QG rfl rfl rfl rfl rfl opt_bool (fun hg => Q_move (.tmp rfl))) rfl rfl ?_
  refine J_qstep (QG rfl rfl rfl rfl rfl opt_bool (fun hg => Q_move (.tmp rfl))) rfl rfl ?_
  refine J_qstep (QG rfl rfl rfl rfl rfl opt_bool (fun hg => (by have hg0 := hg; simp only [BS, ne_eq] at hg0; exact Q_invokeRow findsLess (rowLess_c (d) (a) (i3) (by first | omega | (simp only [Sort.size_swp]; omega)) (by first | omega | (simp only [Sort.size_swp]; omega))) (At.opt rfl (by first | exact hg | (simp only [BS, ne_eq] at hg ⊢; first | exact hg | simp_all))) ⟨(At.opt rfl (by first | exact hg | (simp only [BS, ne_eq] at hg ⊢; first | exact hg | simp_all))), (At.opt rfl (by first | exact hg | (simp only [BS, ne_eq] at hg ⊢; first | exact hg | simp_all))), trivial⟩ (by repeat first | exact R0 | apply RT)))) rfl rfl ?_
  refine J_qstep (QG rfl rfl rfl rfl rfl opt_bool (fun hg => (by have hg0 := hg; simp only [BS, ne_eq] at hg0; exact Q_not (At.opt rfl (by first | exact hg | (simp only [BS, ne_eq] at hg ⊢; first | exact hg | simp_all)))))) rfl rfl ?_
  refine JQ (Q_andB (.tmp rfl) (fun hb => At.opt rfl (by simp only [BS, ne_eq] at hb ⊢; first | exact hb | simp_all))) rfl ?_
  refine JN ?_
  refine J_cond (.tmp rfl) (fun h0 => ?_) (fun h0 => ?_)
  · try simp only [BS, ne_eq] at h0
    refine J_skip ?_
    refine J_then_normal ?_
    refine J_block ?_
    refine J_region ?_
    refine JM rfl rfl ?_
    refine JQ (Q_addi (.tmp rfl) At.int (by first | omega | simp <;> omega) (by first | omega | simp <;> omega)) rfl ?_
    refine JA rfl rfl ?_
    refine J_nil ?_
    refine J_blk_normal ?_
    refine J_then_normal ?_
    refine J_back (i3 + 1) ?_ ?_ ?_ ?_
    · exact ⟨⟨by omega, by omega, by rw [← hti3]; exact (Sort.scanUp_go (p := fun x => !ltO d[a]! x) (by first | omega | simp <;> omega) (by simp [h0.2])).symm⟩, by omega⟩
    · exact ⟨fe rfl (by first | rfl | exact vint_eq (by first | omega | simp <;> omega) | exact vsl_eq (by simp) | exact vstr_eq (by simp)), trivial⟩
    · exact ⟨rfl, rfl, rfl, rfl, trivial⟩
    · exact (Has.take (Repl.row (by repeat first | exact R0 | apply RT) (by first | rfl | simp)) Has.nil)
  try simp only [BS, ne_eq] at h0
  refine J_exit ?_
  refine J_then_exit ?_
  refine J_then_exit ?_
  refine J_blk_out ?_
  refine J_then_normal ?_
  refine J_seq ?_
  refine J_block ?_
  have ei3 := Sort.scanUp_stop (p := fun x => !ltO d[a]! x) (d := d) (j := j2) (i := i3) (by rcases h0 with h0 | h0; (exact .inl (by first | omega | simp <;> omega)); exact .inr (by simp [h0]))
  rw [hti3] at ei3
  refine J_loopU (ι := Nat) (fun j4 => a ≤ j4 ∧ j4 ≤ j2 ∧ Sort.scanDown (fun x => ltO d[a]! x) d i3 j4 = Sort.scanDown (fun x => ltO d[a]! x) d i3 j2) (fun j4 => [(10, VInt .i64 (j4 : Nat))]) [(0, _), (1, _), (8, _), (9, _)] (fun j4 => [RowR 38 v d.toList]) (fun j4 => j4) (j2) ⟨by omega, by omega, rfl⟩ ⟨fe rfl (by first | rfl | exact vint_eq (by first | omega | simp <;> omega) | exact vsl_eq (by simp) | exact vstr_eq (by simp)), trivial⟩ ⟨rfl, rfl, rfl, rfl, trivial⟩ (Has.take (Repl.row (by repeat first | exact R0 | apply RT) (by first | rfl | simp)) Has.nil) (fun j4 hq_2 => ?_)
  obtain ⟨haj4, hjb4, htj4⟩ := hq_2
  refine J_seq ?_
  refine JSR ?_
  refine JM rfl rfl ?_
  refine JM rfl rfl ?_
  refine JQ (Q_leq (.tmp rfl) (.tmp rfl)) rfl ?_
  refine JM rfl rfl ?_
  refine J_qstep (QG rfl rfl rfl rfl rfl opt_bool (fun hg => Q_move (.tmp rfl))) rfl rfl ?_
  refine J_qstep (QG rfl rfl rfl rfl rfl opt_bool (fun hg => Q_move (.tmp rfl))) rfl rfl ?_
  refine J_qstep (QG rfl rfl rfl rfl rfl opt_bool (fun hg => Q_move (.tmp rfl))) rfl rfl ?_
  refine J_qstep (QG rfl rfl rfl rfl rfl opt_bool (fun hg => (by have hg0 := hg; simp only [BS, ne_eq] at hg0; exact Q_invokeRow findsLess (rowLess_c (d) (a) (j4) (by first | omega | (simp only [Sort.size_swp]; omega)) (by first | omega | (simp only [Sort.size_swp]; omega))) (At.opt rfl (by first | exact hg | (simp only [BS, ne_eq] at hg ⊢; first | exact hg | simp_all))) ⟨(At.opt rfl (by first | exact hg | (simp only [BS, ne_eq] at hg ⊢; first | exact hg | simp_all))), (At.opt rfl (by first | exact hg | (simp only [BS, ne_eq] at hg ⊢; first | exact hg | simp_all))), trivial⟩ (by repeat first | exact R0 | apply RT)))) rfl rfl ?_
  refine JQ (Q_andB (.tmp rfl) (fun hb => At.opt rfl (by simp only [BS, ne_eq] at hb ⊢; first | exact hb | simp_all))) rfl ?_
  refine JN ?_
  refine J_cond (.tmp rfl) (fun h1 => ?_) (fun h1 => ?_)
  · try simp only [BS, ne_eq] at h1
    refine J_skip ?_
    refine J_then_normal ?_
    refine J_block ?_
    refine J_region ?_
    refine JM rfl rfl ?_
    refine JQ (Quiet.imp (Q_subi (.tmp rfl) At.int (by first | omega | simp <;> omega) (by first | omega | simp <;> omega)) (imp_eq (vint_eq (show _ = ((j4 - 1 : Nat) : Int) by first | omega | (simp; omega))))) rfl ?_
    refine JA rfl rfl ?_
    refine J_nil ?_
    refine J_blk_normal ?_
    refine J_then_normal ?_
    refine J_back (j4 - 1) ?_ ?_ ?_ ?_
    · exact ⟨⟨by omega, by omega, by rw [← htj4]; exact (Sort.scanDown_go (p := fun x => ltO d[a]! x) (by first | omega | simp <;> omega) (by first | omega | simp <;> omega) h1.2).symm⟩, by omega⟩
    · exact ⟨fe rfl (by first | rfl | exact vint_eq (by first | omega | simp <;> omega) | exact vsl_eq (by simp) | exact vstr_eq (by simp)), trivial⟩
    · exact ⟨rfl, rfl, rfl, rfl, trivial⟩
    · exact (Has.take (Repl.row (by repeat first | exact R0 | apply RT) (by first | rfl | simp)) Has.nil)
  try simp only [BS, ne_eq] at h1
  refine J_exit ?_
  refine J_then_exit ?_
  refine J_then_exit ?_
  refine J_blk_out ?_
  refine J_then_normal ?_
  refine J_seq ?_
  refine JSR ?_
  have ej4 := Sort.scanDown_stop (p := fun x => ltO d[a]! x) (d := d) (i := i3) (j := j4) (by first | omega | simp <;> omega) (by rcases h1 with h1 | h1; (exact .inl (by first | omega | simp <;> omega)); exact .inr h1)
  rw [htj4] at ej4
  refine JM rfl rfl ?_
  refine JM rfl rfl ?_
  refine JQ (Q_gtr (.tmp rfl) (.tmp rfl)) rfl ?_
  refine JN ?_
  refine J_cond (.tmp rfl) (fun h2 => ?_) (fun h2 => ?_)
  · try simp only [BS, ne_eq] at h2
    refine J_exit ?_
    refine J_then_exit ?_
    refine J_blk_by rfl ?_
    refine J_then_exit ?_
    refine J_blk_out ?_
    refine J_then_normal ?_
    refine JSR ?_
    refine JM rfl rfl ?_
    refine JA rfl rfl ?_
    refine JN ?_
    refine J_retc ?_
    have e : Sort.partitionEqual ltO d0 a b pv = (i3, d) := by unfold Sort.partitionEqual; rw [hd1, ← htl, Sort.partEqLoop_stop ei3 ej4 (by first | omega | simp <;> omega)]
    exact J_ret1 rfl (ResAt.tmp rfl) () trivial (Split.take (Repl.row (by repeat first | exact R0 | apply RT) (by rw [e])) Split.nil) (imp_eq (by rw [e]))
  try simp only [BS, ne_eq] at h2
  refine J_skip ?_
  refine J_then_normal ?_
  refine JSR ?_
  refine JM rfl rfl ?_
  refine JM rfl rfl ?_
  refine JM rfl rfl ?_
  refine J_invoke findsSwap (rowSwap_c _ (d) (i3) (j4) ?_ ?_) (.tmp rfl) ⟨(.tmp rfl), (.tmp rfl), trivial⟩ (Split.take (by repeat first | exact R0 | apply RT) Split.nil) rfl (fun r48 hr48 => ?_)
  · first | omega | (simp only [Sort.size_swp]; omega)
  · first | omega | (simp only [Sort.size_swp]; omega)
  refine JNSR ?_
  refine JM rfl rfl ?_
  refine JQ (Quiet.imp (Q_addi (.tmp rfl) At.int (by first | omega | simp <;> omega) (by first | omega | simp <;> omega)) (imp_eq (vint_eq (show _ = ((i3 + 1 : Nat) : Int) by first | omega | (simp; omega))))) rfl ?_
  refine JA rfl rfl ?_
  refine JNR ?_
  refine JM rfl rfl ?_
  refine JQ (Quiet.imp (Q_subi (.tmp rfl) At.int (by first | omega | simp <;> omega) (by first | omega | simp <;> omega)) (imp_eq (vint_eq (show _ = ((j4 - 1 : Nat) : Int) by first | omega | (simp; omega))))) rfl ?_
  refine JA rfl rfl ?_
  refine J_nil ?_
  refine J_blk_normal ?_
  refine J_then_normal ?_
  refine J_back ((i3 + 1, j4 - 1, Sort.swp d i3 j4)) ?_ ?_ ?_ ?_
  · exact ⟨⟨by omega, by omega, by omega, by omega, by rw [Sort.size_swp]; exact hz, by rw [← htl, Sort.partEqLoop_go ei3 ej4 (by first | omega | simp <;> omega)]⟩, by simp only; omega⟩
  · exact ⟨fe rfl (by first | rfl | exact vint_eq (by first | omega | simp <;> omega) | exact vsl_eq (by simp) | exact vstr_eq (by simp)), fe rfl (by first | rfl | exact vint_eq (by first | omega | simp <;> omega) | exact vsl_eq (by simp) | exact vstr_eq (by simp)), trivial⟩
  · exact ⟨rfl, rfl, rfl, trivial⟩
  · exact (Has.take (Repl.row (by repeat first | exact R0 | apply RT) (by first | rfl | simp)) Has.nil)
end Go.Sep
namespace Go.Sep
open Go Go.Proofs
open Enc (V)
attribute [local irreducible] Quiet QStep J At FnX Fn FnP Repl Split Has Post Back GoZ
theorem partIns_c (v : Value) (d0 : Array Oid) (a b : Nat) (hab : a < b) (hb : b ≤ d0.size) (hs : d0.size ≤ 1152921504606846976) : Fn Tryz.prog 125 [IR v, VInt .i64 (a : Nat), VInt .i64 (b : Nat)]
    [RowR 38 v d0.toList] (fun _ : Unit => True) (fun _ => VBool (Sort.partialInsertionSort ltO d0 a b).2) (fun _ => [RowR 38 v (Sort.partialInsertionSort ltO d0 a b).1.toList]) := by
  refine Fn_intro (by kernel_rfl) Tryz.func125 rfl Tryz.ntmps125 rfl (fun e => ?_)
  refine JSR ?_
  refine JQ (Q_assign At.bool) rfl ?_
  refine JNSR ?_
  refine JM rfl rfl ?_
  refine JQ (Quiet.imp (Q_addi (.tmp rfl) At.int (by first | omega | simp <;> omega) (by first | omega | simp <;> omega)) (imp_eq (vint_eq (show _ = ((a + 1 : Nat) : Int) by first | omega | (simp; omega))))) rfl ?_
  refine JA rfl rfl ?_
  refine JNSSR ?_
  refine JQ (Q_assign At.int) rfl ?_
  refine JN ?_
  refine J_block ?_
  refine J_loopU (ι := Nat × Nat × Array Oid) (fun q => match q with | (s, i0, d) => s ≤ 5 ∧ a < i0 ∧ i0 ≤ b ∧ d.size = d0.size ∧ Sort.partialIns ltO a b (5 - s) i0 d = Sort.partialInsertionSort ltO d0 a b) (fun q => match q with | (s, i0, d) => [(8, VInt .i64 (s : Nat)), (7, VInt .i64 (i0 : Nat))]) [(0, _), (1, _), (2, _)] (fun q => match q with | (s, i0, d) => [RowR 38 v d.toList]) (fun q => match q with | (s, i0, d) => 5 - s) ((0, a + 1, d0)) ⟨by omega, by omega, by omega, rfl, rfl⟩ ⟨fe rfl (by first | rfl | exact vint_eq (by first | omega | simp <;> omega) | exact vsl_eq (by simp) | exact vstr_eq (by simp)), fe rfl (by first | rfl | exact vint_eq (by first | omega | simp <;> omega) | exact vsl_eq (by simp) | exact vstr_eq (by simp)), trivial⟩ ⟨rfl, rfl, rfl, trivial⟩ (Has.take (Repl.row (by repeat first | exact R0 | apply RT) (by first | rfl | simp)) Has.nil) (fun q hq => ?_)
  obtain ⟨s, i0, d⟩ := q
  try dsimp only at hq
  obtain ⟨hs5, hai, hib, hd, ht⟩ := hq
  refine J_seq ?_
  refine JSR ?_
  refine JM rfl rfl ?_
  refine JQ (Q_lss (.tmp rfl) At.int) rfl ?_
  refine JN ?_
  refine J_cond (.tmp rfl) (fun h0 => ?_) (fun h0 => ?_)
  · try simp only [BS, ne_eq] at h0
    refine J_skip ?_
    refine J_then_normal ?_
    refine J_seq ?_
    refine J_block ?_
    refine J_seq ?_
    refine J_block ?_
    refine J_loopU (ι := Nat) (fun i => i0 ≤ i ∧ i ≤ b ∧ Sort.scanSorted ltO d b i = Sort.scanSorted ltO d b i0) (fun i => [(7, VInt .i64 (i : Nat))]) [(0, _), (1, _), (2, _), (8, _)] (fun i => [RowR 38 v d.toList]) (fun i => b - i) (i0) ⟨by omega, by omega, rfl⟩ ⟨fe rfl (by first | rfl | exact vint_eq (by first | omega | simp <;> omega) | exact vsl_eq (by simp) | exact vstr_eq (by simp)), trivial⟩ ⟨rfl, rfl, rfl, rfl, trivial⟩ (Has.take (Repl.row (by repeat first | exact R0 | apply RT) (by first | rfl | simp)) Has.nil) (fun i hq_1 => ?_)
    obtain ⟨hi, hib2, hti⟩ := hq_1
    refine J_seq ?_
    refine JSR ?_
    refine JM rfl rfl ?_
    refine JM rfl rfl ?_
    refine JQ (Q_lss (.tmp rfl) (.tmp rfl)) rfl ?_
    refine JM rfl rfl ?_
    refine J_qstep (QG rfl rfl rfl rfl rfl opt_bool (fun hg => Q_move (.tmp rfl))) rfl rfl ?_
    refine J_qstep (QG rfl rfl rfl rfl rfl opt_bool (fun hg => Q_move (.tmp rfl))) rfl rfl ?_
    refine J_qstep (QG rfl rfl rfl rfl rfl opt_bool (fun hg => Q_move (.tmp rfl))) rfl rfl ?_
    refine J_qstep (QG rfl rfl rfl rfl rfl opt_bool (fun hg => (by have hg0 := hg; simp only [BS, ne_eq] at hg0; exact Quiet.imp (Q_subi (At.opt rfl (by first | exact hg | (simp only [BS, ne_eq] at hg ⊢; first | exact hg | simp_all))) At.int (by first | omega | simp <;> omega) (by first | omega | simp <;> omega)) (imp_eq (vint_eq (show _ = ((i - 1 : Nat) : Int) by first | omega | (simp; omega))))))) rfl rfl ?_
    refine J_qstep (QG rfl rfl rfl rfl rfl opt_bool (fun hg => (by have hg0 := hg; simp only [BS, ne_eq] at hg0; exact Q_invokeRow findsLess (rowLess_c (d) (i) (i - 1) (by first | omega | (simp only [Sort.size_swp]; omega)) (by first | omega | (simp only [Sort.size_swp]; omega))) (At.opt rfl (by first | exact hg | (simp only [BS, ne_eq] at hg ⊢; first | exact hg | simp_all))) ⟨(At.opt rfl (by first | exact hg | (simp only [BS, ne_eq] at hg ⊢; first | exact hg | simp_all))), (At.opt rfl (by first | exact hg | (simp only [BS, ne_eq] at hg ⊢; first | exact hg | simp_all))), trivial⟩ (by repeat first | exact R0 | apply RT)))) rfl rfl ?_
    refine J_qstep (QG rfl rfl rfl rfl rfl opt_bool (fun hg => (by have hg0 := hg; simp only [BS, ne_eq] at hg0; exact Q_not (At.opt rfl (by first | exact hg | (simp only [BS, ne_eq] at hg ⊢; first | exact hg | simp_all)))))) rfl rfl ?_
    refine JQ (Q_andB (.tmp rfl) (fun hb => At.opt rfl (by simp only [BS, ne_eq] at hb ⊢; first | exact hb | simp_all))) rfl ?_
    refine JN ?_
    refine J_cond (.tmp rfl) (fun h1 => ?_) (fun h1 => ?_)
    · try simp only [BS, ne_eq] at h1
      refine J_skip ?_
      refine J_then_normal ?_
      refine J_block ?_
      refine J_region ?_
      refine JM rfl rfl ?_
      refine JQ (Quiet.imp (Q_addi (.tmp rfl) At.int (by first | omega | simp <;> omega) (by first | omega | simp <;> omega)) (imp_eq (vint_eq (show _ = ((i + 1 : Nat) : Int) by first | omega | (simp; omega))))) rfl ?_
      refine JA rfl rfl ?_
      refine J_nil ?_
      refine J_blk_normal ?_
      refine J_then_normal ?_
      refine J_back (i + 1) ?_ ?_ ?_ ?_
      · exact ⟨⟨by omega, by omega, by rw [← hti, Sort.scanSorted_go (i := i) (by first | omega | simp <;> omega) h1.2]⟩, by omega⟩
      · exact ⟨fe rfl (by first | rfl | exact vint_eq (by first | omega | simp <;> omega) | exact vsl_eq (by simp) | exact vstr_eq (by simp)), trivial⟩
      · exact ⟨rfl, rfl, rfl, rfl, trivial⟩
      · exact (Has.take (Repl.row (by repeat first | exact R0 | apply RT) (by first | rfl | simp)) Has.nil)
    try simp only [BS, ne_eq] at h1
    refine J_exit ?_
    refine J_then_exit ?_
    refine J_then_exit ?_
    refine J_blk_out ?_
    refine J_then_normal ?_
    refine J_seq ?_
    refine JSR ?_
    have ei := Sort.scanSorted_stop (lt := ltO) (d := d) (b := b) (i := i) (by rcases h1 with h1 | h1; (exact .inl (by first | omega | simp <;> omega)); exact .inr h1)
    rw [hti] at ei
    refine JM rfl rfl ?_
    refine JM rfl rfl ?_
    refine JQ (Q_eql (.tmp rfl) (.tmp rfl)) rfl ?_
    refine JN ?_
    refine J_cond (.tmp rfl) (fun h2 => ?_) (fun h2 => ?_)
    · try simp only [BS, ne_eq] at h2
      have ed : Sort.partialInsertionSort ltO d0 a b = (d, true) := by obtain ⟨m, hm⟩ : ∃ m, 5 - s = m + 1 := ⟨4 - s, by omega⟩; rw [← ht, hm, Sort.partialIns_done ei (by first | omega | simp <;> omega)]
      refine JSR ?_
      refine JQ (Q_assign At.bool) rfl ?_
      refine JN ?_
      refine J_retc ?_
      refine J_then_ret ?_
      refine J_blk_ret ?_
      refine J_then_ret ?_
      refine J_then_ret ?_
      refine J_blk_ret ?_
      refine J_then_ret ?_
      exact J_ret1 rfl (ResAt.tmp rfl) () trivial (Split.take (Repl.row (by repeat first | exact R0 | apply RT) (by rw [ed])) Split.nil) (imp_eq (by rw [ed]))
    try simp only [BS, ne_eq] at h2
    refine J_skip ?_
    refine J_then_normal ?_
    refine J_seq ?_
    refine JSR ?_
    refine JM rfl rfl ?_
    refine JM rfl rfl ?_
    refine JQ (Q_subi (.tmp rfl) (.tmp rfl) (by first | omega | simp <;> omega) (by first | omega | simp <;> omega)) rfl ?_
    refine JQ (Q_lss (.tmp rfl) At.int) rfl ?_
    refine JN ?_
    refine J_cond (.tmp rfl) (fun h3 => ?_) (fun h3 => ?_)
    · try simp only [BS, ne_eq] at h3
      have ed : Sort.partialInsertionSort ltO d0 a b = (d, false) := by obtain ⟨m, hm⟩ : ∃ m, 5 - s = m + 1 := ⟨4 - s, by omega⟩; rw [← ht, hm, Sort.partialIns_short ei (by first | omega | simp <;> omega) (by first | omega | simp <;> omega)]
      refine JSR ?_
      refine JQ (Q_assign At.bool) rfl ?_
      refine JN ?_
      refine J_retc ?_
      refine J_then_ret ?_
      refine J_blk_ret ?_
      refine J_then_ret ?_
      refine J_then_ret ?_
      refine J_blk_ret ?_
      refine J_then_ret ?_
      exact J_ret1 rfl (ResAt.tmp rfl) () trivial (Split.take (Repl.row (by repeat first | exact R0 | apply RT) (by rw [ed])) Split.nil) (imp_eq (by rw [ed]))
    try simp only [BS, ne_eq] at h3
    refine J_skip ?_
    refine J_then_normal ?_
    refine JSR ?_
    refine JM rfl rfl ?_
    refine JM rfl rfl ?_
    refine JM rfl rfl ?_
    refine JQ (Quiet.imp (Q_subi (.tmp rfl) At.int (by first | omega | simp <;> omega) (by first | omega | simp <;> omega)) (imp_eq (vint_eq (show _ = ((i - 1 : Nat) : Int) by first | omega | (simp; omega))))) rfl ?_
    refine J_invoke findsSwap (rowSwap_c _ (d) (i) (i - 1) ?_ ?_) (.tmp rfl) ⟨(.tmp rfl), (.tmp rfl), trivial⟩ (Split.take (by repeat first | exact R0 | apply RT) Split.nil) rfl (fun r41 hr41 => ?_)
    · first | omega | (simp only [Sort.size_swp]; omega)
    · first | omega | (simp only [Sort.size_swp]; omega)
    refine JN ?_
    refine J_seqJ (ι := Array Oid) (fun e2 => e2.size = d.size ∧ e2 = (if i - a ≥ 2 then Sort.shiftDown ltO (i - 1) (Sort.swp d i (i - 1)) else Sort.swp d i (i - 1))) (fun e2 => []) [(0, _), (1, _), (2, _), (7, _), (8, _)] (fun e2 => [RowR 38 v e2.toList]) ⟨rfl, rfl, rfl, rfl, rfl, trivial⟩ ?_ ?_
    · skip
      refine JSR ?_
      refine JM rfl rfl ?_
      refine JM rfl rfl ?_
      refine JQ (Q_subi (.tmp rfl) (.tmp rfl) (by first | omega | simp <;> omega) (by first | omega | simp <;> omega)) rfl ?_
      refine JQ (Q_geq (.tmp rfl) At.int) rfl ?_
      refine JN ?_
      refine J_cond (.tmp rfl) (fun h4 => ?_) (fun h4 => ?_)
      · try simp only [BS, ne_eq] at h4
        refine JSR ?_
        refine JM rfl rfl ?_
        refine JQ (Quiet.imp (Q_subi (.tmp rfl) At.int (by first | omega | simp <;> omega) (by first | omega | simp <;> omega)) (imp_eq (vint_eq (show _ = ((i - 1 : Nat) : Int) by first | omega | (simp; omega))))) rfl ?_
        refine JA rfl rfl ?_
        refine JN ?_
        refine J_block ?_
        refine J_loopU (ι := Nat × Array Oid) (fun q => match q with | (j3, d3) => j3 ≤ i - 1 ∧ d3.size = d0.size ∧ Sort.shiftDown ltO j3 d3 = Sort.shiftDown ltO (i - 1) (Sort.swp d i (i - 1))) (fun q => match q with | (j3, d3) => [(9, VInt .i64 (j3 : Nat))]) [(0, _), (1, _), (2, _), (7, _), (8, _)] (fun q => match q with | (j3, d3) => [RowR 38 v d3.toList]) (fun q => match q with | (j3, d3) => j3) ((i - 1, Sort.swp d i (i - 1))) ⟨by omega, by rw [Sort.size_swp]; exact hd, rfl⟩ ⟨fe rfl (by first | rfl | exact vint_eq (by first | omega | simp <;> omega) | exact vsl_eq (by simp) | exact vstr_eq (by simp)), trivial⟩ ⟨rfl, rfl, rfl, rfl, rfl, trivial⟩ (Has.take (Repl.row (by repeat first | exact R0 | apply RT) (by first | rfl | simp)) Has.nil) (fun q_1 hq_3 => ?_)
        obtain ⟨j3, d3⟩ := q_1
        try dsimp only at hq_3
        obtain ⟨hj3, hz5, ht3⟩ := hq_3
        refine J_seq ?_
        refine JSR ?_
        refine JM rfl rfl ?_
        refine JQ (Q_geq (.tmp rfl) At.int) rfl ?_
        refine JN ?_
        refine J_cond (.tmp rfl) (fun h5 => ?_) (fun h5 => ?_)
        · try simp only [BS, ne_eq] at h5
          refine J_skip ?_
          refine J_then_normal ?_
          refine J_seq ?_
          refine J_block ?_
          refine J_seq ?_
          refine JSR ?_
          refine JM rfl rfl ?_
          refine JM rfl rfl ?_
          refine JM rfl rfl ?_
          refine JQ (Quiet.imp (Q_subi (.tmp rfl) At.int (by first | omega | simp <;> omega) (by first | omega | simp <;> omega)) (imp_eq (vint_eq (show _ = ((j3 - 1 : Nat) : Int) by first | omega | (simp; omega))))) rfl ?_
          refine JQ (Q_invokeRow findsLess (rowLess_c (d3) (j3) (j3 - 1) (by first | omega | (simp only [Sort.size_swp]; omega)) (by first | omega | (simp only [Sort.size_swp]; omega))) (.tmp rfl) ⟨(.tmp rfl), (.tmp rfl), trivial⟩ (by repeat first | exact R0 | apply RT)) rfl ?_
          refine JQ (Q_not (.tmp rfl)) rfl ?_
          refine JN ?_
          refine J_cond (.tmp rfl) (fun h6 => ?_) (fun h6 => ?_)
          · try simp only [BS, ne_eq] at h6
            refine J_exit ?_
            refine J_then_exit ?_
            refine J_blk_by rfl ?_
            refine J_then_exit ?_
            refine J_then_exit ?_
            refine J_blk_out ?_
            refine J_then_normal ?_
            have e5 := Sort.shiftDown_stop (lt := ltO) (d := d3) (j := j3) (.inr h6)
            rw [ht3] at e5
            refine J_back (d3) ?_ ?_ ?_ ?_
            · exact ⟨by rw [hz5, hd], by rw [if_pos (by first | omega | simp <;> omega), e5]⟩
            · exact trivial
            · exact ⟨rfl, rfl, rfl, rfl, rfl, trivial⟩
            · exact (Has.take (Repl.row (by repeat first | exact R0 | apply RT) (by first | rfl | simp)) Has.nil)
          try simp only [BS, ne_eq] at h6
          refine J_skip ?_
          refine J_then_normal ?_
          refine J_region ?_
          refine JM rfl rfl ?_
          refine JM rfl rfl ?_
          refine JM rfl rfl ?_
          refine JQ (Quiet.imp (Q_subi (.tmp rfl) At.int (by first | omega | simp <;> omega) (by first | omega | simp <;> omega)) (imp_eq (vint_eq (show _ = ((j3 - 1 : Nat) : Int) by first | omega | (simp; omega))))) rfl ?_
          refine J_invoke findsSwap (rowSwap_c _ (d3) (j3) (j3 - 1) ?_ ?_) (.tmp rfl) ⟨(.tmp rfl), (.tmp rfl), trivial⟩ (Split.take (by repeat first | exact R0 | apply RT) Split.nil) rfl (fun r62 hr62 => ?_)
          · first | omega | (simp only [Sort.size_swp]; omega)
          · first | omega | (simp only [Sort.size_swp]; omega)
          refine J_nil ?_
          refine J_blk_normal ?_
          refine J_then_normal ?_
          refine J_region ?_
          refine JM rfl rfl ?_
          refine JQ (Quiet.imp (Q_subi (.tmp rfl) At.int (by first | omega | simp <;> omega) (by first | omega | simp <;> omega)) (imp_eq (vint_eq (show _ = ((j3 - 1 : Nat) : Int) by first | omega | (simp; omega))))) rfl ?_
          refine JA rfl rfl ?_
          refine JN ?_
          refine J_back ((j3 - 1, Sort.swp d3 j3 (j3 - 1))) ?_ ?_ ?_ ?_
          · exact ⟨⟨by omega, by rw [Sort.size_swp]; exact hz5, by rw [← ht3, Sort.shiftDown_go (j := j3) (by first | omega | simp <;> omega) h6]⟩, by simp only; omega⟩
          · exact ⟨fe rfl (by first | rfl | exact vint_eq (by first | omega | simp <;> omega) | exact vsl_eq (by simp) | exact vstr_eq (by simp)), trivial⟩
          · exact ⟨rfl, rfl, rfl, rfl, rfl, trivial⟩
          · exact (Has.take (Repl.row (by repeat first | exact R0 | apply RT) (by first | rfl | simp)) Has.nil)
        try simp only [BS, ne_eq] at h5
        refine J_exit ?_
        refine J_then_exit ?_
        refine J_then_exit ?_
        refine J_blk_out ?_
        refine J_then_normal ?_
        have e5 := Sort.shiftDown_stop (lt := ltO) (d := d3) (j := j3) (.inl (by first | omega | simp <;> omega))
        rw [ht3] at e5
        refine J_back (d3) ?_ ?_ ?_ ?_
        · exact ⟨by rw [hz5, hd], by rw [if_pos (by first | omega | simp <;> omega), e5]⟩
        · exact trivial
        · exact ⟨rfl, rfl, rfl, rfl, rfl, trivial⟩
        · exact (Has.take (Repl.row (by repeat first | exact R0 | apply RT) (by first | rfl | simp)) Has.nil)
      try simp only [BS, ne_eq] at h4
      refine J_skip ?_
      refine J_then_normal ?_
      refine J_back (Sort.swp d i (i - 1)) ?_ ?_ ?_ ?_
      · exact ⟨Sort.size_swp _ _ _, by rw [if_neg (by first | omega | simp <;> omega)]⟩
      · exact trivial
      · exact ⟨rfl, rfl, rfl, rfl, rfl, trivial⟩
      · exact (Has.take (Repl.row (by repeat first | exact R0 | apply RT) (by first | rfl | simp)) Has.nil)
    intro e2 hq_2
    obtain ⟨hz2, he2⟩ := hq_2
    refine JSR ?_
    refine JM rfl rfl ?_
    refine JM rfl rfl ?_
    refine JQ (Q_subi (.tmp rfl) (.tmp rfl) (by first | omega | simp <;> omega) (by first | omega | simp <;> omega)) rfl ?_
    refine JQ (Q_geq (.tmp rfl) At.int) rfl ?_
    refine JN ?_
    refine J_cond (.tmp rfl) (fun h7 => ?_) (fun h7 => ?_)
    · try simp only [BS, ne_eq] at h7
      refine JSR ?_
      refine JM rfl rfl ?_
      refine JQ (Quiet.imp (Q_addi (.tmp rfl) At.int (by first | omega | simp <;> omega) (by first | omega | simp <;> omega)) (imp_eq (vint_eq (show _ = ((i + 1 : Nat) : Int) by first | omega | (simp; omega))))) rfl ?_
      refine JA rfl rfl ?_
      refine JN ?_
      refine J_block ?_
      refine J_loopU (ι := Nat × Array Oid) (fun q => match q with | (j4, d4) => i < j4 ∧ d4.size = d0.size ∧ Sort.shiftUp ltO b j4 d4 = Sort.shiftUp ltO b (i + 1) e2) (fun q => match q with | (j4, d4) => [(10, VInt .i64 (j4 : Nat))]) [(0, _), (1, _), (2, _), (7, _), (8, _)] (fun q => match q with | (j4, d4) => [RowR 38 v d4.toList]) (fun q => match q with | (j4, d4) => b - j4) ((i + 1, e2)) ⟨by omega, by rw [hz2]; exact hd, rfl⟩ ⟨fe rfl (by first | rfl | exact vint_eq (by first | omega | simp <;> omega) | exact vsl_eq (by simp) | exact vstr_eq (by simp)), trivial⟩ ⟨rfl, rfl, rfl, rfl, rfl, trivial⟩ (Has.take (Repl.row (by repeat first | exact R0 | apply RT) (by first | rfl | simp)) Has.nil) (fun q_2 hq_4 => ?_)
      obtain ⟨j4, d4⟩ := q_2
      try dsimp only at hq_4
      obtain ⟨hj4, hz6, ht4⟩ := hq_4
      refine J_seq ?_
      refine JSR ?_
      refine JM rfl rfl ?_
      refine JM rfl rfl ?_
      refine JQ (Q_lss (.tmp rfl) (.tmp rfl)) rfl ?_
      refine JN ?_
      refine J_cond (.tmp rfl) (fun h8 => ?_) (fun h8 => ?_)
      · try simp only [BS, ne_eq] at h8
        refine J_skip ?_
        refine J_then_normal ?_
        refine J_seq ?_
        refine J_block ?_
        refine J_seq ?_
        refine JSR ?_
        refine JM rfl rfl ?_
        refine JM rfl rfl ?_
        refine JM rfl rfl ?_
        refine JQ (Quiet.imp (Q_subi (.tmp rfl) At.int (by first | omega | simp <;> omega) (by first | omega | simp <;> omega)) (imp_eq (vint_eq (show _ = ((j4 - 1 : Nat) : Int) by first | omega | (simp; omega))))) rfl ?_
        refine JQ (Q_invokeRow findsLess (rowLess_c (d4) (j4) (j4 - 1) (by first | omega | (simp only [Sort.size_swp]; omega)) (by first | omega | (simp only [Sort.size_swp]; omega))) (.tmp rfl) ⟨(.tmp rfl), (.tmp rfl), trivial⟩ (by repeat first | exact R0 | apply RT)) rfl ?_
        refine JQ (Q_not (.tmp rfl)) rfl ?_
        refine JN ?_
        refine J_cond (.tmp rfl) (fun h9 => ?_) (fun h9 => ?_)
        · try simp only [BS, ne_eq] at h9
          refine J_exit ?_
          refine J_then_exit ?_
          refine J_blk_by rfl ?_
          refine J_then_exit ?_
          refine J_then_exit ?_
          refine J_blk_out ?_
          refine J_blk_normal ?_
          refine J_then_normal ?_
          refine J_region ?_
          refine JM rfl rfl ?_
          refine JQ (Quiet.imp (Q_addi (.tmp rfl) At.int (by first | omega | simp <;> omega) (by first | omega | simp <;> omega)) (imp_eq (vint_eq (show _ = ((s + 1 : Nat) : Int) by first | omega | (simp; omega))))) rfl ?_
          refine JA rfl rfl ?_
          refine JN ?_
          have e5 := Sort.shiftUp_stop (lt := ltO) (b := b) (d := d4) (j := j4) (.inr h9)
          rw [ht4] at e5
          have e3 : d4 = Sort.stepIns ltO a b i d := by unfold Sort.stepIns; simp only; rw [← he2, if_pos (by first | omega | simp <;> omega), e5]
          refine J_back ((s + 1, i, d4)) ?_ ?_ ?_ ?_
          · exact ⟨⟨by omega, by omega, by omega, hz6, by obtain ⟨m, hm⟩ : ∃ m, 5 - s = m + 1 := ⟨4 - s, by omega⟩; rw [← ht, hm, Sort.partialIns_go ei (by first | omega | simp <;> omega) (by first | omega | simp <;> omega), e3, show 5 - (s + 1) = m by omega]⟩, by simp only; omega⟩
          · exact ⟨fe rfl (by first | rfl | exact vint_eq (by first | omega | simp <;> omega) | exact vsl_eq (by simp) | exact vstr_eq (by simp)), fe rfl (by first | rfl | exact vint_eq (by first | omega | simp <;> omega) | exact vsl_eq (by simp) | exact vstr_eq (by simp)), trivial⟩
          · exact ⟨rfl, rfl, rfl, trivial⟩
          · exact (Has.take (Repl.row (by repeat first | exact R0 | apply RT) (by first | rfl | simp)) Has.nil)
        try simp only [BS, ne_eq] at h9
        refine J_skip ?_
        refine J_then_normal ?_
        refine J_region ?_
        refine JM rfl rfl ?_
        refine JM rfl rfl ?_
        refine JM rfl rfl ?_
        refine JQ (Quiet.imp (Q_subi (.tmp rfl) At.int (by first | omega | simp <;> omega) (by first | omega | simp <;> omega)) (imp_eq (vint_eq (show _ = ((j4 - 1 : Nat) : Int) by first | omega | (simp; omega))))) rfl ?_
        refine J_invoke findsSwap (rowSwap_c _ (d4) (j4) (j4 - 1) ?_ ?_) (.tmp rfl) ⟨(.tmp rfl), (.tmp rfl), trivial⟩ (Split.take (by repeat first | exact R0 | apply RT) Split.nil) rfl (fun r84 hr84 => ?_)
        · first | omega | (simp only [Sort.size_swp]; omega)
        · first | omega | (simp only [Sort.size_swp]; omega)
        refine J_nil ?_
        refine J_blk_normal ?_
        refine J_then_normal ?_
        refine J_region ?_
        refine JM rfl rfl ?_
        refine JQ (Quiet.imp (Q_addi (.tmp rfl) At.int (by first | omega | simp <;> omega) (by first | omega | simp <;> omega)) (imp_eq (vint_eq (show _ = ((j4 + 1 : Nat) : Int) by first | omega | (simp; omega))))) rfl ?_
        refine JA rfl rfl ?_
        refine JN ?_
        refine J_back ((j4 + 1, Sort.swp d4 j4 (j4 - 1))) ?_ ?_ ?_ ?_
        · exact ⟨⟨by omega, by rw [Sort.size_swp]; exact hz6, by rw [← ht4, Sort.shiftUp_go (j := j4) (by first | omega | simp <;> omega) h9]⟩, by simp only; omega⟩
        · exact ⟨fe rfl (by first | rfl | exact vint_eq (by first | omega | simp <;> omega) | exact vsl_eq (by simp) | exact vstr_eq (by simp)), trivial⟩
        · exact ⟨rfl, rfl, rfl, rfl, rfl, trivial⟩
        · exact (Has.take (Repl.row (by repeat first | exact R0 | apply RT) (by first | rfl | simp)) Has.nil)
      try simp only [BS, ne_eq] at h8
      refine J_exit ?_
      refine J_then_exit ?_
      refine J_then_exit ?_
      refine J_blk_out ?_
      refine J_blk_normal ?_
      refine J_then_normal ?_
      refine J_region ?_
      refine JM rfl rfl ?_
      refine JQ (Quiet.imp (Q_addi (.tmp rfl) At.int (by first | omega | simp <;> omega) (by first | omega | simp <;> omega)) (imp_eq (vint_eq (show _ = ((s + 1 : Nat) : Int) by first | omega | (simp; omega))))) rfl ?_
      refine JA rfl rfl ?_
      refine JN ?_
      have e5 := Sort.shiftUp_stop (lt := ltO) (b := b) (d := d4) (j := j4) (.inl (by first | omega | simp <;> omega))
      rw [ht4] at e5
      have e3 : d4 = Sort.stepIns ltO a b i d := by unfold Sort.stepIns; simp only; rw [← he2, if_pos (by first | omega | simp <;> omega), e5]
      refine J_back ((s + 1, i, d4)) ?_ ?_ ?_ ?_
      · exact ⟨⟨by omega, by omega, by omega, hz6, by obtain ⟨m, hm⟩ : ∃ m, 5 - s = m + 1 := ⟨4 - s, by omega⟩; rw [← ht, hm, Sort.partialIns_go ei (by first | omega | simp <;> omega) (by first | omega | simp <;> omega), e3, show 5 - (s + 1) = m by omega]⟩, by simp only; omega⟩
      · exact ⟨fe rfl (by first | rfl | exact vint_eq (by first | omega | simp <;> omega) | exact vsl_eq (by simp) | exact vstr_eq (by simp)), fe rfl (by first | rfl | exact vint_eq (by first | omega | simp <;> omega) | exact vsl_eq (by simp) | exact vstr_eq (by simp)), trivial⟩
      · exact ⟨rfl, rfl, rfl, trivial⟩
      · exact (Has.take (Repl.row (by repeat first | exact R0 | apply RT) (by first | rfl | simp)) Has.nil)
    try simp only [BS, ne_eq] at h7
    refine J_skip ?_
    refine J_blk_normal ?_
    refine J_then_normal ?_
    refine J_region ?_
    refine JM rfl rfl ?_
    refine JQ (Quiet.imp (Q_addi (.tmp rfl) At.int (by first | omega | simp <;> omega) (by first | omega | simp <;> omega)) (imp_eq (vint_eq (show _ = ((s + 1 : Nat) : Int) by first | omega | (simp; omega))))) rfl ?_
    refine JA rfl rfl ?_
    refine JN ?_
    have e3 : e2 = Sort.stepIns ltO a b i d := by unfold Sort.stepIns; simp only; rw [← he2, if_neg (by first | omega | simp <;> omega)]
    refine J_back ((s + 1, i, e2)) ?_ ?_ ?_ ?_
    · exact ⟨⟨by omega, by omega, by omega, (by rw [hz2]; exact hd), by obtain ⟨m, hm⟩ : ∃ m, 5 - s = m + 1 := ⟨4 - s, by omega⟩; rw [← ht, hm, Sort.partialIns_go ei (by first | omega | simp <;> omega) (by first | omega | simp <;> omega), e3, show 5 - (s + 1) = m by omega]⟩, by simp only; omega⟩
    · exact ⟨fe rfl (by first | rfl | exact vint_eq (by first | omega | simp <;> omega) | exact vsl_eq (by simp) | exact vstr_eq (by simp)), fe rfl (by first | rfl | exact vint_eq (by first | omega | simp <;> omega) | exact vsl_eq (by simp) | exact vstr_eq (by simp)), trivial⟩
    · exact ⟨rfl, rfl, rfl, trivial⟩
    · exact (Has.take (Repl.row (by repeat first | exact R0 | apply RT) (by first | rfl | simp)) Has.nil)
  try simp only [BS, ne_eq] at h0
  have ed : Sort.partialInsertionSort ltO d0 a b = (d, false) := by rw [← ht, show 5 - s = 0 by omega]; rfl
  refine J_exit ?_
  refine J_then_exit ?_
  refine J_then_exit ?_
  refine J_blk_out ?_
  refine J_then_normal ?_
  refine JSR ?_
  refine JQ (Q_assign At.bool) rfl ?_
  refine JN ?_
  refine J_retc ?_
  exact J_ret1 rfl (ResAt.tmp rfl) () trivial (Split.take (Repl.row (by repeat first | exact R0 | apply RT) (by rw [ed])) Split.nil) (imp_eq (by rw [ed]))
theorem medAdj_lt {d : Array Oid} {a s n : Nat} (hb : a + 1 < n) : (Sort.medianAdjacent ltO d a s).1 < n ∧ (Sort.medianAdjacent ltO d a s).2 ≤ s + 3 := by
  refine ⟨?_, Sort.medianAdjacent_count _ _ _ _⟩
  rcases Sort.medianAdjacent_mem ltO d a s with h | h | h <;> omega
theorem pivot_c (v : Value) (d : Array Oid) (a b : Nat) (hab : a + 12 < b) (hb : b ≤ d.size) (hs : d.size ≤ 1152921504606846976) : Fn Tryz.prog 123 [IR v, VInt .i64 (a : Nat), VInt .i64 (b : Nat)]
    [RowR 38 v d.toList] (fun _ : Unit => True) (fun _ => VTup [VInt .i64 ((Sort.choosePivot ltO d a b).1 : Nat), VInt .i64 (Sort.hintCode (Sort.choosePivot ltO d a b).2)]) (fun _ => [RowR 38 v d.toList]) := by
  refine Fn_intro (by kernel_rfl) Tryz.func123 rfl Tryz.ntmps123 rfl (fun e => ?_)
  refine JSR ?_
  refine JQ (Q_assign At.int) rfl ?_
  refine JQ (Q_assign At.int) rfl ?_
  refine JNSR ?_
  refine JM rfl rfl ?_
  refine JM rfl rfl ?_
  refine JQ (Quiet.imp (Q_subi (.tmp rfl) (.tmp rfl) (by first | omega | simp <;> omega) (by first | omega | simp <;> omega)) (imp_eq (vint_eq (show _ = ((b - a : Nat) : Int) by first | omega | (simp; omega))))) rfl ?_
  refine JA rfl rfl ?_
  refine JNSR ?_
  refine J_alloc Z3 rfl (fun b9 => ?_)
  refine JNSR ?_
  refine JM rfl rfl ?_
  refine JM rfl rfl ?_
  refine JQ (Quiet.imp (Q_quoi (.tmp rfl) At.int (by first | omega | simp <;> omega) (by first | omega | simp <;> omega) (by first | omega | simp <;> omega)) (imp_eq (vint_eq (show _ = (((b - a) / 4 : Nat) : Int) by first | omega | (simp; omega))))) rfl ?_
  refine JQ (Quiet.imp (Q_muli (.tmp rfl) At.int (by first | omega | simp <;> omega) (by first | omega | simp <;> omega)) (imp_eq (vint_eq (show _ = (((b - a) / 4 * 1 : Nat) : Int) by first | omega | (simp; omega))))) rfl ?_
  refine JQ (Quiet.imp (Q_addi (.tmp rfl) (.tmp rfl) (by first | omega | simp <;> omega) (by first | omega | simp <;> omega)) (imp_eq (vint_eq (show _ = ((a + (b - a) / 4 * 1 : Nat) : Int) by first | omega | (simp; omega))))) rfl ?_
  refine JA rfl rfl ?_
  refine JNSR ?_
  refine JM rfl rfl ?_
  refine JM rfl rfl ?_
  refine JQ (Quiet.imp (Q_quoi (.tmp rfl) At.int (by first | omega | simp <;> omega) (by first | omega | simp <;> omega) (by first | omega | simp <;> omega)) (imp_eq (vint_eq (show _ = (((b - a) / 4 : Nat) : Int) by first | omega | (simp; omega))))) rfl ?_
  refine JQ (Quiet.imp (Q_muli (.tmp rfl) At.int (by first | omega | simp <;> omega) (by first | omega | simp <;> omega)) (imp_eq (vint_eq (show _ = (((b - a) / 4 * 2 : Nat) : Int) by first | omega | (simp; omega))))) rfl ?_
  refine JQ (Quiet.imp (Q_addi (.tmp rfl) (.tmp rfl) (by first | omega | simp <;> omega) (by first | omega | simp <;> omega)) (imp_eq (vint_eq (show _ = ((a + (b - a) / 4 * 2 : Nat) : Int) by first | omega | (simp; omega))))) rfl ?_
  refine JA rfl rfl ?_
  refine JNSR ?_
  refine JM rfl rfl ?_
  refine JM rfl rfl ?_
  refine JQ (Quiet.imp (Q_quoi (.tmp rfl) At.int (by first | omega | simp <;> omega) (by first | omega | simp <;> omega) (by first | omega | simp <;> omega)) (imp_eq (vint_eq (show _ = (((b - a) / 4 : Nat) : Int) by first | omega | (simp; omega))))) rfl ?_
  refine JQ (Quiet.imp (Q_muli (.tmp rfl) At.int (by first | omega | simp <;> omega) (by first | omega | simp <;> omega)) (imp_eq (vint_eq (show _ = (((b - a) / 4 * 3 : Nat) : Int) by first | omega | (simp; omega))))) rfl ?_
  refine JQ (Quiet.imp (Q_addi (.tmp rfl) (.tmp rfl) (by first | omega | simp <;> omega) (by first | omega | simp <;> omega)) (imp_eq (vint_eq (show _ = ((a + (b - a) / 4 * 3 : Nat) : Int) by first | omega | (simp; omega))))) rfl ?_
  refine JA rfl rfl ?_
  refine JN ?_
  refine J_seqJ (ι := Nat × Nat) (fun q => match q with | (pj, s) => (pj, s) = Sort.rawPivot ltO d a b) (fun q => match q with | (pj, s) => [(11, VInt .i64 (pj : Nat))]) [(6, _), (7, _), (9, _)] (fun q => match q with | (pj, s) => [RowR 38 v d.toList, BoxR 3 b9 ((s : Nat) : Int)]) ⟨rfl, rfl, rfl, trivial⟩ ?_ ?_
  · skip
    refine JSR ?_
    refine JM rfl rfl ?_
    refine JQ (Q_geq (.tmp rfl) At.int) rfl ?_
    refine JN ?_
    refine J_cond (.tmp rfl) (fun h0 => ?_) (fun h0 => ?_)
    · try simp only [BS, ne_eq] at h0
      refine J_seq ?_
      refine JSR ?_
      refine JM rfl rfl ?_
      refine JQ (Q_geq (.tmp rfl) At.int) rfl ?_
      refine JN ?_
      refine J_cond (.tmp rfl) (fun h1 => ?_) (fun h1 => ?_)
      · try simp only [BS, ne_eq] at h1
        have m1 := medAdj_lt (d := d) (a := a + (b - a) / 4 * 1) (s := 0) (n := d.size) (by first | omega | simp <;> omega)
        have m2 := medAdj_lt (d := d) (a := a + (b - a) / 4 * 2) (s := (Sort.medianAdjacent ltO d (a + (b - a) / 4 * 1) 0).2) (n := d.size) (by first | omega | simp <;> omega)
        have m3 := medAdj_lt (d := d) (a := a + (b - a) / 4 * 3) (s := (Sort.medianAdjacent ltO d (a + (b - a) / 4 * 2) (Sort.medianAdjacent ltO d (a + (b - a) / 4 * 1) 0).2).2) (n := d.size) (by first | omega | simp <;> omega)
        refine JSR ?_
        refine JM rfl rfl ?_
        refine JM rfl rfl ?_
        refine J_call (medAdj_c _ _ _ 0 ?_ ?_ ?_ ?_) ⟨(.tmp rfl), (.tmp rfl), (.tmp rfl), trivial⟩ (Split.take (by repeat first | exact R0 | apply RT) (Split.take (by repeat first | exact R0 | apply RT) Split.nil)) rfl (fun r37 hr37 => ?_)
        · exact (by first | omega | simp <;> omega)
        · exact (by first | omega | simp <;> omega)
        · exact (by first | omega | simp <;> omega)
        · exact (by first | omega | simp <;> omega)
        refine JA rfl rfl ?_
        refine JNSR ?_
        refine JM rfl rfl ?_
        refine JM rfl rfl ?_
        refine J_call (medAdj_c _ _ _ _ ?_ ?_ ?_ ?_) ⟨(.tmp rfl), (.tmp rfl), (.tmp rfl), trivial⟩ (Split.take (by repeat first | exact R0 | apply RT) (Split.take (by repeat first | exact R0 | apply RT) Split.nil)) rfl (fun r40 hr40 => ?_)
        · exact (by first | omega | simp <;> omega)
        · exact (by first | omega | simp <;> omega)
        · exact (by first | omega | simp <;> omega)
        · exact (by first | omega | simp <;> omega)
        refine JA rfl rfl ?_
        refine JNR ?_
        refine JM rfl rfl ?_
        refine JM rfl rfl ?_
        refine J_call (medAdj_c _ _ _ _ ?_ ?_ ?_ ?_) ⟨(.tmp rfl), (.tmp rfl), (.tmp rfl), trivial⟩ (Split.take (by repeat first | exact R0 | apply RT) (Split.take (by repeat first | exact R0 | apply RT) Split.nil)) rfl (fun r43 hr43 => ?_)
        · exact (by first | omega | simp <;> omega)
        · exact (by first | omega | simp <;> omega)
        · exact (by first | omega | simp <;> omega)
        · exact (by first | omega | simp <;> omega)
        refine JA rfl rfl ?_
        refine JNR ?_
        refine JM rfl rfl ?_
        refine JM rfl rfl ?_
        refine JM rfl rfl ?_
        refine JM rfl rfl ?_
        refine J_call (median_c _ _ _ _ _ _ ?_ ?_ ?_ ?_) ⟨(.tmp rfl), (.tmp rfl), (.tmp rfl), (.tmp rfl), (.tmp rfl), trivial⟩ (Split.take (by repeat first | exact R0 | apply RT) (Split.take (by repeat first | exact R0 | apply RT) Split.nil)) rfl (fun r48 hr48 => ?_)
        · exact (by first | omega | simp <;> omega)
        · exact (by first | omega | simp <;> omega)
        · exact (by first | omega | simp <;> omega)
        · exact (by first | omega | simp <;> omega)
        refine JA rfl rfl ?_
        refine JN ?_
        have er : Sort.rawPivot ltO d a b = Sort.median ltO d (Sort.medianAdjacent ltO d (a + (b - a) / 4 * 1) 0).1 (Sort.medianAdjacent ltO d (a + (b - a) / 4 * 2) (Sort.medianAdjacent ltO d (a + (b - a) / 4 * 1) 0).2).1 (Sort.medianAdjacent ltO d (a + (b - a) / 4 * 3) (Sort.medianAdjacent ltO d (a + (b - a) / 4 * 2) (Sort.medianAdjacent ltO d (a + (b - a) / 4 * 1) 0).2).2).1 (Sort.medianAdjacent ltO d (a + (b - a) / 4 * 3) (Sort.medianAdjacent ltO d (a + (b - a) / 4 * 2) (Sort.medianAdjacent ltO d (a + (b - a) / 4 * 1) 0).2).2).2 := by unfold Sort.rawPivot; rw [if_pos (by first | omega | simp <;> omega), if_pos (by first | omega | simp <;> omega)]
        refine J_back (((Sort.median ltO d (Sort.medianAdjacent ltO d (a + (b - a) / 4 * 1) 0).1 (Sort.medianAdjacent ltO d (a + (b - a) / 4 * 2) (Sort.medianAdjacent ltO d (a + (b - a) / 4 * 1) 0).2).1 (Sort.medianAdjacent ltO d (a + (b - a) / 4 * 3) (Sort.medianAdjacent ltO d (a + (b - a) / 4 * 2) (Sort.medianAdjacent ltO d (a + (b - a) / 4 * 1) 0).2).2).1 (Sort.medianAdjacent ltO d (a + (b - a) / 4 * 3) (Sort.medianAdjacent ltO d (a + (b - a) / 4 * 2) (Sort.medianAdjacent ltO d (a + (b - a) / 4 * 1) 0).2).2).2).1, (Sort.median ltO d (Sort.medianAdjacent ltO d (a + (b - a) / 4 * 1) 0).1 (Sort.medianAdjacent ltO d (a + (b - a) / 4 * 2) (Sort.medianAdjacent ltO d (a + (b - a) / 4 * 1) 0).2).1 (Sort.medianAdjacent ltO d (a + (b - a) / 4 * 3) (Sort.medianAdjacent ltO d (a + (b - a) / 4 * 2) (Sort.medianAdjacent ltO d (a + (b - a) / 4 * 1) 0).2).2).1 (Sort.medianAdjacent ltO d (a + (b - a) / 4 * 3) (Sort.medianAdjacent ltO d (a + (b - a) / 4 * 2) (Sort.medianAdjacent ltO d (a + (b - a) / 4 * 1) 0).2).2).2).2)) ?_ ?_ ?_ ?_
        · exact (by rw [er])
        · exact ⟨fe rfl (by first | rfl | exact vint_eq (by first | omega | simp <;> omega) | exact vsl_eq (by simp) | exact vstr_eq (by simp)), trivial⟩
        · exact ⟨rfl, rfl, rfl, trivial⟩
        · exact (Has.take (Repl.row (by repeat first | exact R0 | apply RT) (by first | rfl | simp)) (Has.take (Repl.box (by repeat first | exact R0 | apply RT) (by first | rfl | simp)) Has.nil))
      try simp only [BS, ne_eq] at h1
      refine J_skip ?_
      refine J_then_normal ?_
      refine J_region ?_
      refine JM rfl rfl ?_
      refine JM rfl rfl ?_
      refine JM rfl rfl ?_
      refine JM rfl rfl ?_
      refine J_call (median_c _ _ _ _ _ _ ?_ ?_ ?_ ?_) ⟨(.tmp rfl), (.tmp rfl), (.tmp rfl), (.tmp rfl), (.tmp rfl), trivial⟩ (Split.take (by repeat first | exact R0 | apply RT) (Split.take (by repeat first | exact R0 | apply RT) Split.nil)) rfl (fun r48_1 hr48_1 => ?_)
      · exact (by first | omega | simp <;> omega)
      · exact (by first | omega | simp <;> omega)
      · exact (by first | omega | simp <;> omega)
      · exact (by first | omega | simp <;> omega)
      refine JA rfl rfl ?_
      refine JN ?_
      have er : Sort.rawPivot ltO d a b = Sort.median ltO d (a + (b - a) / 4 * 1) (a + (b - a) / 4 * 2) (a + (b - a) / 4 * 3) 0 := by unfold Sort.rawPivot; rw [if_pos (by first | omega | simp <;> omega), if_neg (by first | omega | simp <;> omega)]
      refine J_back (((Sort.median ltO d (a + (b - a) / 4 * 1) (a + (b - a) / 4 * 2) (a + (b - a) / 4 * 3) 0).1, (Sort.median ltO d (a + (b - a) / 4 * 1) (a + (b - a) / 4 * 2) (a + (b - a) / 4 * 3) 0).2)) ?_ ?_ ?_ ?_
      · exact (by rw [er])
      · exact ⟨fe rfl (by first | rfl | exact vint_eq (by first | omega | simp <;> omega) | exact vsl_eq (by simp) | exact vstr_eq (by simp)), trivial⟩
      · exact ⟨rfl, rfl, rfl, trivial⟩
      · exact (Has.take (Repl.row (by repeat first | exact R0 | apply RT) (by first | rfl | simp)) (Has.take (Repl.box (by repeat first | exact R0 | apply RT) (by first | rfl | simp)) Has.nil))
    try simp only [BS, ne_eq] at h0
    omega
  intro q hps
  obtain ⟨pj, s⟩ := q
  try dsimp only at hps
  refine JSR ?_
  refine JQ (Q_loadB (.tmp rfl) (by repeat first | exact R0 | apply RT) Lens.id T3 (by (try dsimp only) <;> rfl)) rfl ?_
  refine JN ?_
  refine J_block ?_
  refine JSR ?_
  refine JQ (Q_eql (.tmp rfl) At.int) rfl ?_
  refine JA rfl rfl ?_
  refine JN ?_
  refine J_cond (.tmp rfl) (fun h2 => ?_) (fun h2 => ?_)
  · try simp only [BS, ne_eq] at h2
    refine JSR ?_
    refine JM rfl rfl ?_
    refine JA rfl rfl ?_
    refine JQ (Q_assign At.int) rfl ?_
    refine JN ?_
    refine J_retc ?_
    refine J_blk_ret ?_
    exact J_ret2 rfl (ResAt.tmp rfl) (ResAt.tmp rfl) () trivial (Split.take (by repeat first | exact R0 | apply RT) Split.nil) (imp_eq (by rw [Sort.choosePivot_eq, ← hps, Sort.hintOf, if_pos (show (pj, s).2 = 0 by simp only; omega)]; rfl))
  try simp only [BS, ne_eq] at h2
  refine JSR ?_
  refine JQ (Q_eql (.tmp rfl) At.int) rfl ?_
  refine JA rfl rfl ?_
  refine JN ?_
  refine J_cond (.tmp rfl) (fun h3 => ?_) (fun h3 => ?_)
  · try simp only [BS, ne_eq] at h3
    refine JSR ?_
    refine JM rfl rfl ?_
    refine JA rfl rfl ?_
    refine JQ (Q_assign At.int) rfl ?_
    refine JN ?_
    refine J_retc ?_
    refine J_blk_ret ?_
    exact J_ret2 rfl (ResAt.tmp rfl) (ResAt.tmp rfl) () trivial (Split.take (by repeat first | exact R0 | apply RT) Split.nil) (imp_eq (by rw [Sort.choosePivot_eq, ← hps, Sort.hintOf, if_neg (show ¬ (pj, s).2 = 0 by simp only; omega), if_pos (show (pj, s).2 = 12 by simp only; omega)]; rfl))
  try simp only [BS, ne_eq] at h3
  refine JSR ?_
  refine JM rfl rfl ?_
  refine JA rfl rfl ?_
  refine JQ (Q_assign At.int) rfl ?_
  refine JN ?_
  refine J_retc ?_
  refine J_blk_ret ?_
  exact J_ret2 rfl (ResAt.tmp rfl) (ResAt.tmp rfl) () trivial (Split.take (by repeat first | exact R0 | apply RT) Split.nil) (imp_eq (by rw [Sort.choosePivot_eq, ← hps, Sort.hintOf, if_neg (show ¬ (pj, s).2 = 0 by simp only; omega), if_neg (show ¬ (pj, s).2 = 12 by simp only; omega)]; rfl))
end Go.Sep
namespace Go.Sep
open Go Go.Proofs
open Enc (V)
attribute [local irreducible] Quiet QStep J At FnX Fn FnP Repl Split Has Post Back GoZ
def len8 : Bytes := (List.range 256).map fun i => UInt8.ofNat (Sort.bitsLen i)
theorem bitsLen_split {n : Nat} (k : Nat) (h : 2 ^ k ≤ n) : Sort.bitsLen n = k + Sort.bitsLen (n / 2 ^ k) := by
  have hp : 0 < 2 ^ k := Nat.two_pow_pos k
  have h1 : 1 ≤ n / 2 ^ k := (Nat.le_div_iff_mul_le hp).2 (by omega)
  apply Nat.le_antisymm
  · rw [Sort.bitsLen_le_iff, Nat.pow_add]
    have := Sort.lt_two_pow_bitsLen (n / 2 ^ k)
    rw [Nat.mul_comm]
    exact (Nat.div_lt_iff_lt_mul hp).1 this
  · have h2 : k ≤ Sort.bitsLen n := by
      apply Nat.le_of_not_lt
      intro h3
      have := (Sort.bitsLen_le_iff n (k - 1)).1 (by omega)
      have h4 : 2 ^ (k - 1) ≤ 2 ^ k := Nat.pow_le_pow_right (by omega) (by omega)
      omega
    have h3 : Sort.bitsLen (n / 2 ^ k) ≤ Sort.bitsLen n - k := by
      rw [Sort.bitsLen_le_iff, Nat.div_lt_iff_lt_mul hp, ← Nat.pow_add, Nat.sub_add_cancel h2]
      exact Sort.lt_two_pow_bitsLen n
    omega
theorem len8_at {n : Nat} (h : n < 256) : (len8.getD n 0).toNat = Sort.bitsLen n := by
  have hb : Sort.bitsLen n ≤ 8 := (Sort.bitsLen_le_iff n 8).2 (by omega)
  unfold len8
  simp [List.getD_eq_getElem?_getD, List.getElem?_range h]
  omega
theorem at_len8 {G : Ctx} {l : Bytes} (h : l = len8) : At G (.const (.string ⟨l.toArray⟩)) (VStr len8) := h ▸ At.str
theorem len64_c (x : UInt64) : FnP Tryz.prog 119 [VInt .u64 (x.toNat : Nat)] (VInt .i64 (Sort.bitsLen x.toNat : Nat)) := by
  have hx := x.toNat_lt
  refine FnP_intro (by kernel_rfl) Tryz.func119 rfl Tryz.ntmps119 rfl (fun e => ?_)
  refine JSR ?_
  refine JQ (Q_assign At.int) rfl ?_
  refine JN ?_
  refine J_seqJ (ι := UInt64 × Nat) (fun q => match q with | (y, m) => y.toNat < 4294967296 ∧ m + Sort.bitsLen y.toNat = Sort.bitsLen x.toNat ∧ m ≤ 32) (fun q => match q with | (y, m) => [(0, VInt .u64 (y.toNat : Nat)), (2, VInt .i64 (m : Nat))]) [] (fun q => match q with | (y, m) => []) trivial ?_ ?_
  · skip
    refine JSR ?_
    refine JM rfl rfl ?_
    refine JQ (Q_geq (.tmp rfl) At.int) rfl ?_
    refine JN ?_
    refine J_cond (.tmp rfl) (fun h0 => ?_) (fun h0 => ?_)
    · try simp only [BS, ne_eq] at h0
      refine JSR ?_
      refine JM rfl rfl ?_
      refine JQ (Q_shr64 (c := 32) (.tmp rfl) At.int (by first | omega | simp <;> omega)) rfl ?_
      refine JA rfl rfl ?_
      refine JNR ?_
      refine JQ (Q_assign At.int) rfl ?_
      refine JN ?_
      refine J_back ((shr64 x 32, 32)) ?_ ?_ ?_ ?_
      · exact (by refine ⟨?_, ?_, by omega⟩; (rw [shr64_toNat]; omega); (have := bitsLen_split (n := x.toNat) 32 (by first | omega | simp <;> omega); rw [shr64_toNat]; omega))
      · exact ⟨fe rfl (by first | rfl | exact vint_eq (by first | omega | simp <;> omega) | exact vsl_eq (by simp) | exact vstr_eq (by simp)), fe rfl (by first | rfl | exact vint_eq (by first | omega | simp <;> omega) | exact vsl_eq (by simp) | exact vstr_eq (by simp)), trivial⟩
      · exact trivial
      · exact Has.nil
    try simp only [BS, ne_eq] at h0
    refine J_skip ?_
    refine J_then_normal ?_
    refine J_back ((x, 0)) ?_ ?_ ?_ ?_
    · exact ⟨by omega, by omega, by omega⟩
    · exact ⟨fe rfl (by first | rfl | exact vint_eq (by first | omega | simp <;> omega) | exact vsl_eq (by simp) | exact vstr_eq (by simp)), fe rfl (by first | rfl | exact vint_eq (by first | omega | simp <;> omega) | exact vsl_eq (by simp) | exact vstr_eq (by simp)), trivial⟩
    · exact trivial
    · exact Has.nil
  intro q hq
  obtain ⟨y, m⟩ := q
  try dsimp only at hq
  obtain ⟨hy, hm, hm2⟩ := hq
  refine J_seqJ (ι := UInt64 × Nat) (fun q => match q with | (y2, m2) => y2.toNat < 65536 ∧ m2 + Sort.bitsLen y2.toNat = Sort.bitsLen x.toNat ∧ m2 ≤ 48) (fun q => match q with | (y2, m2) => [(0, VInt .u64 (y2.toNat : Nat)), (2, VInt .i64 (m2 : Nat))]) [] (fun q => match q with | (y2, m2) => []) trivial ?_ ?_
  · skip
    refine JSR ?_
    refine JM rfl rfl ?_
    refine JQ (Q_geq (.tmp rfl) At.int) rfl ?_
    refine JN ?_
    refine J_cond (.tmp rfl) (fun h1 => ?_) (fun h1 => ?_)
    · try simp only [BS, ne_eq] at h1
      refine JSR ?_
      refine JM rfl rfl ?_
      refine JQ (Q_shr64 (c := 16) (.tmp rfl) At.int (by first | omega | simp <;> omega)) rfl ?_
      refine JA rfl rfl ?_
      refine JNR ?_
      refine JM rfl rfl ?_
      refine JQ (Q_addi (.tmp rfl) At.int (by first | omega | simp <;> omega) (by first | omega | simp <;> omega)) rfl ?_
      refine JA rfl rfl ?_
      refine JN ?_
      refine J_back ((shr64 y 16, m + 16)) ?_ ?_ ?_ ?_
      · exact (by refine ⟨?_, ?_, by omega⟩; (rw [shr64_toNat]; omega); (have := bitsLen_split (n := y.toNat) 16 (by first | omega | simp <;> omega); rw [shr64_toNat]; omega))
      · exact ⟨fe rfl (by first | rfl | exact vint_eq (by first | omega | simp <;> omega) | exact vsl_eq (by simp) | exact vstr_eq (by simp)), fe rfl (by first | rfl | exact vint_eq (by first | omega | simp <;> omega) | exact vsl_eq (by simp) | exact vstr_eq (by simp)), trivial⟩
      · exact trivial
      · exact Has.nil
    try simp only [BS, ne_eq] at h1
    refine J_skip ?_
    refine J_then_normal ?_
    refine J_back ((y, m)) ?_ ?_ ?_ ?_
    · exact ⟨by omega, by omega, by omega⟩
    · exact ⟨fe rfl (by first | rfl | exact vint_eq (by first | omega | simp <;> omega) | exact vsl_eq (by simp) | exact vstr_eq (by simp)), fe rfl (by first | rfl | exact vint_eq (by first | omega | simp <;> omega) | exact vsl_eq (by simp) | exact vstr_eq (by simp)), trivial⟩
    · exact trivial
    · exact Has.nil
  intro q_1 hq_1
  obtain ⟨y2, m2⟩ := q_1
  try dsimp only at hq_1
  obtain ⟨hy2, hm3, hm4⟩ := hq_1
  refine J_seqJ (ι := UInt64 × Nat) (fun q => match q with | (y3, m3) => y3.toNat < 256 ∧ m3 + Sort.bitsLen y3.toNat = Sort.bitsLen x.toNat ∧ m3 ≤ 56) (fun q => match q with | (y3, m3) => [(0, VInt .u64 (y3.toNat : Nat)), (2, VInt .i64 (m3 : Nat))]) [] (fun q => match q with | (y3, m3) => []) trivial ?_ ?_
  · skip
    refine JSR ?_
    refine JM rfl rfl ?_
    refine JQ (Q_geq (.tmp rfl) At.int) rfl ?_
    refine JN ?_
    refine J_cond (.tmp rfl) (fun h2 => ?_) (fun h2 => ?_)
    · try simp only [BS, ne_eq] at h2
      refine JSR ?_
      refine JM rfl rfl ?_
      refine JQ (Q_shr64 (c := 8) (.tmp rfl) At.int (by first | omega | simp <;> omega)) rfl ?_
      refine JA rfl rfl ?_
      refine JNR ?_
      refine JM rfl rfl ?_
      refine JQ (Q_addi (.tmp rfl) At.int (by first | omega | simp <;> omega) (by first | omega | simp <;> omega)) rfl ?_
      refine JA rfl rfl ?_
      refine JN ?_
      refine J_back ((shr64 y2 8, m2 + 8)) ?_ ?_ ?_ ?_
      · exact (by refine ⟨?_, ?_, by omega⟩; (rw [shr64_toNat]; omega); (have := bitsLen_split (n := y2.toNat) 8 (by first | omega | simp <;> omega); rw [shr64_toNat]; omega))
      · exact ⟨fe rfl (by first | rfl | exact vint_eq (by first | omega | simp <;> omega) | exact vsl_eq (by simp) | exact vstr_eq (by simp)), fe rfl (by first | rfl | exact vint_eq (by first | omega | simp <;> omega) | exact vsl_eq (by simp) | exact vstr_eq (by simp)), trivial⟩
      · exact trivial
      · exact Has.nil
    try simp only [BS, ne_eq] at h2
    refine J_skip ?_
    refine J_then_normal ?_
    refine J_back ((y2, m2)) ?_ ?_ ?_ ?_
    · exact ⟨by omega, by omega, by omega⟩
    · exact ⟨fe rfl (by first | rfl | exact vint_eq (by first | omega | simp <;> omega) | exact vsl_eq (by simp) | exact vstr_eq (by simp)), fe rfl (by first | rfl | exact vint_eq (by first | omega | simp <;> omega) | exact vsl_eq (by simp) | exact vstr_eq (by simp)), trivial⟩
    · exact trivial
    · exact Has.nil
  intro q_2 hq_2
  obtain ⟨y3, m3⟩ := q_2
  try dsimp only at hq_2
  obtain ⟨hy3, hm5, hm6⟩ := hq_2
  refine JSR ?_
  refine JM rfl rfl ?_
  refine JM rfl rfl ?_
  refine JQ (Q_to8 (.tmp rfl) (by kernel_rfl) Tryz.underlying5) rfl ?_
  refine JQ (Q_idxs Tryz.underlying9 (at_len8 (by kernel_rfl)) (.tmp rfl) (by first | omega | simp <;> omega) (by rw [toU8_toNat]; simp [len8]; omega)) rfl ?_
  refine JQ (Q_conv8to64 (.tmp rfl) (by kernel_rfl) Tryz.underlying3) rfl ?_
  have hb8 : (len8.getD (((toU8 (y3.toNat : Int)).toNat : Nat) : Int).toNat 0).toNat < 256 := UInt8.toNat_lt _
  refine JQ (Q_addi (.tmp rfl) (.tmp rfl) (by first | omega | simp <;> omega) (by first | omega | simp <;> omega)) rfl ?_
  refine JA rfl rfl ?_
  refine JN ?_
  refine J_retc ?_
  have ey : (((toU8 (y3.toNat : Int)).toNat : Nat) : Int).toNat = y3.toNat := by rw [toU8_toNat]; omega
  have e8 := len8_at hy3
  exact J_ret1 rfl (ResAt.tmp rfl) () trivial Split.nil (imp_eq (vint_eq (by rw [ey, e8]; omega)))
theorem len_c (n : Nat) (hn : n < 18446744073709551616) : FnP Tryz.prog 85 [VInt .u64 (n : Nat)] (VInt .i64 (Sort.bitsLen n : Nat)) := by
  obtain ⟨x, rfl⟩ : ∃ x : UInt64, x.toNat = n := ⟨UInt64.ofNat n, by rw [UInt64.toNat_ofNat']; omega⟩
  refine FnP_intro (by kernel_rfl) Tryz.func85 rfl Tryz.ntmps85 rfl (fun e => ?_)
  refine JSR ?_
  refine JQ (Q_assign At.int) rfl ?_
  refine JN ?_
  refine J_seq ?_
  refine J_cond At.bool (fun h0 => ?_) (fun h0 => ?_)
  · try simp only [BS, ne_eq] at h0
    cases h0
  try simp only [BS, ne_eq] at h0
  refine J_skip ?_
  refine J_then_normal ?_
  refine JSR ?_
  refine JM rfl rfl ?_
  refine JQ (Q_call (len64_c _) ⟨(.tmp rfl), trivial⟩) rfl ?_
  refine JA rfl rfl ?_
  refine JN ?_
  refine J_retc ?_
  exact J_ret1 rfl (ResAt.tmp rfl) () trivial Split.nil imp_refl
theorem shl64_eq (x : UInt64) (c : Nat) (h : c < 64) : shl64 x c = x <<< UInt64.ofNat c := by
  apply UInt64.toNat_inj.1
  have h1 := toU64_toNat ((x.toNat : Int) * 2 ^ c)
  have h2 : (x <<< UInt64.ofNat c).toNat = x.toNat * 2 ^ c % 18446744073709551616 := by
    rw [UInt64.toNat_shiftLeft, UInt64.toNat_ofNat', Nat.shiftLeft_eq]
    have : c % 2 ^ 64 % 64 = c := by omega
    rw [this]
  rw [h2]
  unfold shl64
  have h3 : ((x.toNat : Int) * 2 ^ c) = ((x.toNat * 2 ^ c : Nat) : Int) := by simp
  rw [h3] at h1 ⊢
  omega
theorem shr64_eq (x : UInt64) (c : Nat) (h : c < 64) : shr64 x c = x >>> UInt64.ofNat c := by
  apply UInt64.toNat_inj.1
  rw [shr64_toNat, UInt64.toNat_shiftRight, UInt64.toNat_ofNat', Nat.shiftRight_eq_div_pow]
  have : c % 2 ^ 64 % 64 = c := by omega
  rw [this]
theorem xorNext_eq (r : UInt64) : Sort.xorNext r = ((r ^^^ shl64 r 13) ^^^ shr64 (r ^^^ shl64 r 13) 7) ^^^ shl64 ((r ^^^ shl64 r 13) ^^^ shr64 (r ^^^ shl64 r 13) 7) 17 := by
  rw [shl64_eq _ 13 (by omega), shl64_eq _ 17 (by omega), shr64_eq _ 7 (by omega)]
  rfl
def modU (n : Nat) : UInt64 := UInt64.ofNat (1 <<< Sort.bitsLen n)
theorem nextPow_c (n : Nat) (hn : n ≤ 1152921504606846976) : FnP Tryz.prog 147 [VInt .i64 (n : Nat)] (VInt .u64 ((modU n).toNat : Nat)) := by
  have hb : Sort.bitsLen n ≤ 62 := (Sort.bitsLen_le_iff n 62).2 (by omega)
  refine FnP_intro (by kernel_rfl) Tryz.func147 rfl Tryz.ntmps147 rfl (fun e => ?_)
  refine JSR ?_
  refine JQ (Q_assign (At.k64 (z := 0) (by decide))) rfl ?_
  refine JNSR ?_
  refine JM rfl rfl ?_
  refine JQ (Quiet.imp (Q_to64 (.tmp rfl) (by kernel_rfl) Tryz.underlying163) (imp_eq (vint_eq (show _ = ((n : Nat) : Int) by rw [toU64_toNat]; omega)))) rfl ?_
  refine JQ (Q_call (len_c _ (by first | omega | simp <;> omega)) ⟨(.tmp rfl), trivial⟩) rfl ?_
  refine JQ (Quiet.imp (Q_to64 (.tmp rfl) (by kernel_rfl) Tryz.underlying163) (imp_eq (vint_eq (show _ = ((Sort.bitsLen n : Nat) : Int) by rw [toU64_toNat]; omega)))) rfl ?_
  refine JA rfl rfl ?_
  refine JNSR ?_
  refine JM rfl rfl ?_
  refine JQ (Q_shl64 (u := UInt64.ofNat 1) (c := Sort.bitsLen n) (At.k64 (z := 1) (by decide)) (.tmp rfl) (by first | omega | simp <;> omega)) rfl ?_
  refine JA rfl rfl ?_
  refine JN ?_
  refine J_retc ?_
  exact J_ret1 rfl (ResAt.tmp rfl) () trivial Split.nil (imp_eq (vint_eq (by congr 1; rw [shl64_eq _ _ (by first | omega | simp <;> omega)]; apply congrArg UInt64.toNat; apply UInt64.toNat_inj.1; unfold modU; rw [UInt64.toNat_shiftLeft, UInt64.toNat_ofNat', UInt64.toNat_ofNat', Nat.mod_mod_of_dvd _ (by decide : (64 : Nat) ∣ 2 ^ 64), Nat.mod_eq_of_lt (show Sort.bitsLen n < 64 by omega)]; rfl)))
theorem next64_c {tb p : Nat} (r : UInt64) : Fn Tryz.prog 148 [Ptr p 0] [BoxR tb p r] (fun _ : Unit => True) (fun _ => VInt .u64 ((Sort.xorNext r).toNat : Nat)) (fun _ => [BoxR tb p (Sort.xorNext r)]) := by
  refine Fn_intro (by kernel_rfl) Tryz.func148 rfl Tryz.ntmps148 rfl (fun e => ?_)
  refine JSR ?_
  refine JQ (Q_assign (At.k64 (z := 0) (by decide))) rfl ?_
  refine JN ?_
  refine J_seq ?_
  refine J_draw mix 9 [3, 4, 5, 6, 7, 8, 9, 10, 11] [_, _, _, _, _, _, _, _, _] rfl rfl (by kernel_rfl) (by kernel_rfl) (by kernel_rfl) (by kernel_rfl) (by kernel_rfl) ⟨QS (Q_move (.tmp rfl)) rfl, QS (Q_nilChkP (.tmp rfl)) rfl, QS (Q_loadB (.tmp rfl) (by repeat first | exact R0 | apply RT) Lens.id T224 (by (try dsimp only) <;> rfl)) rfl, QS (Q_move (.tmp rfl)) rfl, QS (Q_nilChkP (.tmp rfl)) rfl, QS (Q_loadB (.tmp rfl) (by repeat first | exact R0 | apply RT) Lens.id T224 (by (try dsimp only) <;> rfl)) rfl, QS (Q_shl64 (c := 13) (.tmp rfl) At.int (by first | omega | simp <;> omega)) rfl, QS (Q_xor64 (.tmp rfl) (.tmp rfl)) rfl, QS (Q_nilChkP (.tmp rfl)) rfl, trivial⟩ ?_
  refine J_store (.tmp rfl) (.tmp rfl) (by (try dsimp only) <;> rfl) (by repeat first | exact R1 | apply RT) Lens.id T224.size ?_
  refine JN ?_
  refine J_seq ?_
  refine J_draw mix 9 [12, 13, 14, 15, 16, 17, 18, 19, 20] [_, _, _, _, _, _, _, _, _] rfl rfl (by kernel_rfl) (by kernel_rfl) (by kernel_rfl) (by kernel_rfl) (by kernel_rfl) ⟨QS (Q_move (.tmp rfl)) rfl, QS (Q_nilChkP (.tmp rfl)) rfl, QS (Q_loadB (.tmp rfl) (by repeat first | exact R0 | apply RT) Lens.id T224 (by (try dsimp only) <;> rfl)) rfl, QS (Q_move (.tmp rfl)) rfl, QS (Q_nilChkP (.tmp rfl)) rfl, QS (Q_loadB (.tmp rfl) (by repeat first | exact R0 | apply RT) Lens.id T224 (by (try dsimp only) <;> rfl)) rfl, QS (Q_shr64 (c := 7) (.tmp rfl) At.int (by first | omega | simp <;> omega)) rfl, QS (Q_xor64 (.tmp rfl) (.tmp rfl)) rfl, QS (Q_nilChkP (.tmp rfl)) rfl, trivial⟩ ?_
  refine J_store (.tmp rfl) (.tmp rfl) (by (try dsimp only) <;> rfl) (by repeat first | exact R1 | apply RT) Lens.id T224.size ?_
  refine JN ?_
  refine J_seq ?_
  refine J_draw mix 9 [21, 22, 23, 24, 25, 26, 27, 28, 29] [_, _, _, _, _, _, _, _, _] rfl rfl (by kernel_rfl) (by kernel_rfl) (by kernel_rfl) (by kernel_rfl) (by kernel_rfl) ⟨QS (Q_move (.tmp rfl)) rfl, QS (Q_nilChkP (.tmp rfl)) rfl, QS (Q_loadB (.tmp rfl) (by repeat first | exact R0 | apply RT) Lens.id T224 (by (try dsimp only) <;> rfl)) rfl, QS (Q_move (.tmp rfl)) rfl, QS (Q_nilChkP (.tmp rfl)) rfl, QS (Q_loadB (.tmp rfl) (by repeat first | exact R0 | apply RT) Lens.id T224 (by (try dsimp only) <;> rfl)) rfl, QS (Q_shl64 (c := 17) (.tmp rfl) At.int (by first | omega | simp <;> omega)) rfl, QS (Q_xor64 (.tmp rfl) (.tmp rfl)) rfl, QS (Q_nilChkP (.tmp rfl)) rfl, trivial⟩ ?_
  refine J_store (.tmp rfl) (.tmp rfl) (by (try dsimp only) <;> rfl) (by repeat first | exact R1 | apply RT) Lens.id T224.size ?_
  refine JNSR ?_
  refine JM rfl rfl ?_
  refine JQ (Q_nilChkP (.tmp rfl)) rfl ?_
  refine JQ (Q_loadB (.tmp rfl) (by repeat first | exact R0 | apply RT) Lens.id T224 (by (try dsimp only) <;> rfl)) rfl ?_
  refine JA rfl rfl ?_
  refine JN ?_
  refine J_retc ?_
  exact J_ret1 rfl (ResAt.tmp rfl) () trivial (Split.take (Repl.box (by repeat first | exact R0 | apply RT) (by rw [xorNext_eq])) Split.nil) (imp_eq (vint_eq (by rw [xorNext_eq])))
end Go.Sep
