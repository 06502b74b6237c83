/- Lemmas for the statement below: steps of the walk. Conditions: none of their own. -/
import Derived.Test.YtejlcnbhaagdjaaGreatDoorZ02
set_option linter.unusedSimpArgs false
set_option linter.unusedVariables false
set_option linter.unusedSectionVars false
namespace Go.Sep
open Go Go.Proofs
open Enc (V)
attribute [local irreducible] Quiet QStep J At FnX Fn FnP Repl Split Has Post Back GoZ
def brk (d : Array Oid) (a L : Nat) : Nat → UInt64 × Array Oid
  | 0 => (UInt64.ofNat L, d)
  | k + 1 => Sort.breakStep a L (1 <<< Sort.bitsLen L) (brk d a L k) (a + L / 4 * 2 - 1 + k)
theorem brk_size (d : Array Oid) (a L : Nat) : ∀ k, (brk d a L k).2.size = d.size
  | 0 => rfl
  | k + 1 => by show (Sort.swp _ _ _).size = _; rw [Sort.size_swp, brk_size d a L k]
theorem brk_eq (d : Array Oid) (a b : Nat) (h : 8 ≤ b - a) : Sort.breakPatterns d a b = (brk d a (b - a) 3).2 := by
  unfold Sort.breakPatterns; simp only; rw [if_pos h]; rfl
theorem modU_and (r : UInt64) (L : Nat) (h : L ≤ 1152921504606846976) (h0 : 0 < L) : (r &&& (modU L - UInt64.ofNat 1)).toNat = r.toNat &&& (1 <<< Sort.bitsLen L - 1) ∧ (r.toNat &&& (1 <<< Sort.bitsLen L - 1)) < 2 * L := by
  have hb : Sort.bitsLen L ≤ 62 := (Sort.bitsLen_le_iff L 62).2 (by omega)
  have h2 := Sort.two_pow_bitsLen_le h0
  have hp : 0 < 2 ^ Sort.bitsLen L := Nat.two_pow_pos _
  have hm : (modU L - UInt64.ofNat 1).toNat = 1 <<< Sort.bitsLen L - 1 := by
    unfold modU
    rw [Nat.one_shiftLeft, UInt64.toNat_sub_of_le _ _ (by simp only [UInt64.le_iff_toNat_le, UInt64.toNat_ofNat']; omega)]
    simp only [UInt64.toNat_ofNat']
    omega
  refine ⟨by rw [UInt64.toNat_and, hm], ?_⟩
  have := @Nat.and_le_right r.toNat (1 <<< Sort.bitsLen L - 1)
  rw [Nat.one_shiftLeft] at this ⊢
  omega
theorem break_c (v : Value) (d0 : Array Oid) (a b : Nat) (hab : a + 12 < b) (hb : b ≤ d0.size) (hs : d0.size ≤ 1152921504606846976) : Fn Tryz.prog 122 [IR v, VInt .i64 (a : Nat), VInt .i64 (b : Nat)]
    [RowR 38 v d0.toList] (fun _ : Unit => True) (fun _ => VTup []) (fun _ => [RowR 38 v (Sort.breakPatterns d0 a b).toList]) := by
  refine Fn_intro (by kernel_rfl) Tryz.func122 rfl Tryz.ntmps122 rfl (fun e => ?_)
  refine JSR ?_
  refine JM rfl rfl ?_
  refine JM rfl rfl ?_
  refine JQ (Quiet.imp (Q_subi (.tmp rfl) (.tmp rfl) (by first | omega | simp <;> omega) (by first | omega | simp <;> omega)) (imp_eq (vint_eq (show _ = ((b - a : Nat) : Int) by first | omega | (simp; omega))))) rfl ?_
  refine JA rfl rfl ?_
  refine JNSR ?_
  refine JM rfl rfl ?_
  refine JQ (Q_geq (.tmp rfl) At.int) rfl ?_
  refine JN ?_
  refine J_cond (.tmp rfl) (fun h0 => ?_) (fun h0 => ?_)
  · try simp only [BS, ne_eq] at h0
    refine JSR ?_
    refine JM rfl rfl ?_
    refine JQ (Quiet.imp (Q_to64 (.tmp rfl) (by kernel_rfl) Tryz.underlying224) (imp_eq (congrArg (VInt .u64) (show _ = (((UInt64.ofNat (b - a)).toNat : Nat) : Int) by rw [toU64_toNat, UInt64.toNat_ofNat']; omega)))) rfl ?_
    refine J_alloc Z224 rfl (fun b7 => ?_)
    refine J_store (.tmp rfl) (.tmp rfl) (by (try dsimp only) <;> rfl) (by repeat first | exact R1 | apply RT) Lens.id T224.size ?_
    refine JNSR ?_
    refine JM rfl rfl ?_
    refine JQ (Q_call (nextPow_c _ (by first | omega | simp <;> omega)) ⟨(.tmp rfl), trivial⟩) rfl ?_
    refine JA rfl rfl ?_
    refine JNSR ?_
    refine JM rfl rfl ?_
    refine JM rfl rfl ?_
    refine JQ (Quiet.imp (Q_quoi (.tmp rfl) At.int (by first | omega | simp <;> omega) (by first | omega | simp <;> omega) (by first | omega | simp <;> omega)) (imp_eq (vint_eq (show _ = (((b - a) / 4 : Nat) : Int) by first | omega | (simp; omega))))) rfl ?_
    refine JQ (Quiet.imp (Q_muli (.tmp rfl) At.int (by first | omega | simp <;> omega) (by first | omega | simp <;> omega)) (imp_eq (vint_eq (show _ = (((b - a) / 4 * 2 : Nat) : Int) by first | omega | (simp; omega))))) rfl ?_
    refine JQ (Quiet.imp (Q_addi (.tmp rfl) (.tmp rfl) (by first | omega | simp <;> omega) (by first | omega | simp <;> omega)) (imp_eq (vint_eq (show _ = ((a + (b - a) / 4 * 2 : Nat) : Int) by first | omega | (simp; omega))))) rfl ?_
    refine JQ (Quiet.imp (Q_subi (.tmp rfl) At.int (by first | omega | simp <;> omega) (by first | omega | simp <;> omega)) (imp_eq (vint_eq (show _ = ((a + (b - a) / 4 * 2 - 1 : Nat) : Int) by first | omega | (simp; omega))))) rfl ?_
    refine JA rfl rfl ?_
    refine JN ?_
    refine J_block ?_
    refine J_loopU (ι := Nat) (fun k => k ≤ 3) (fun k => [(9, VInt .i64 ((a + (b - a) / 4 * 2 - 1 + k : Nat) : Int))]) [(0, _), (1, _), (6, _), (7, _), (8, _)] (fun k => [RowR 38 v (brk d0 a (b - a) k).2.toList, BoxR 224 b7 (brk d0 a (b - a) k).1]) (fun k => 3 - k) (0) (by first | omega | simp <;> omega) ⟨fe rfl (by first | rfl | exact vint_eq (by first | omega | simp <;> omega) | exact vsl_eq (by simp) | exact vstr_eq (by simp)), trivial⟩ ⟨rfl, rfl, rfl, rfl, rfl, trivial⟩ (Has.take (Repl.row (by repeat first | exact R0 | apply RT) (by first | rfl | simp)) (Has.take (Repl.box (by repeat first | exact R0 | apply RT) (by first | rfl | simp)) Has.nil)) (fun k hq => ?_)
    obtain hk := hq
    have hz := brk_size d0 a (b - a) k
    refine J_seq ?_
    refine JSR ?_
    refine JM rfl rfl ?_
    refine JM rfl rfl ?_
    refine JM rfl rfl ?_
    refine JQ (Quiet.imp (Q_quoi (.tmp rfl) At.int (by first | omega | simp <;> omega) (by first | omega | simp <;> omega) (by first | omega | simp <;> omega)) (imp_eq (vint_eq (show _ = (((b - a) / 4 : Nat) : Int) by first | omega | (simp; omega))))) rfl ?_
    refine JQ (Quiet.imp (Q_muli (.tmp rfl) At.int (by first | omega | simp <;> omega) (by first | omega | simp <;> omega)) (imp_eq (vint_eq (show _ = (((b - a) / 4 * 2 : Nat) : Int) by first | omega | (simp; omega))))) rfl ?_
    refine JQ (Quiet.imp (Q_addi (.tmp rfl) (.tmp rfl) (by first | omega | simp <;> omega) (by first | omega | simp <;> omega)) (imp_eq (vint_eq (show _ = ((a + (b - a) / 4 * 2 : Nat) : Int) by first | omega | (simp; omega))))) rfl ?_
    refine JQ (Quiet.imp (Q_addi (.tmp rfl) At.int (by first | omega | simp <;> omega) (by first | omega | simp <;> omega)) (imp_eq (vint_eq (show _ = ((a + (b - a) / 4 * 2 + 1 : Nat) : Int) by first | omega | (simp; omega))))) rfl ?_
    refine JQ (Q_leq (.tmp rfl) (.tmp rfl)) rfl ?_
    refine JN ?_
    refine J_cond (.tmp rfl) (fun h1 => ?_) (fun h1 => ?_)
    · try simp only [BS, ne_eq] at h1
      refine J_skip ?_
      refine J_then_normal ?_
      refine J_seq ?_
      refine J_block ?_
      refine JSR ?_
      refine J_call (next64_c _) ⟨(.tmp rfl), trivial⟩ (Split.take (by repeat first | exact R0 | apply RT) Split.nil) rfl (fun r36 hr36 => ?_)
      have hx := modU_and (Sort.xorNext (brk d0 a (b - a) k).1) (b - a) (by first | omega | simp <;> omega) (by first | omega | simp <;> omega)
      generalize hxe : (Sort.xorNext (brk d0 a (b - a) k).1).toNat &&& (1 <<< Sort.bitsLen (b - a) - 1) = x at hx
      refine JM rfl rfl ?_
      refine JQ (Q_sub64 (.tmp rfl) (At.k64 (z := 1) (by decide))) rfl ?_
      refine JQ (Q_and64 (.tmp rfl) (.tmp rfl)) rfl ?_
      refine JQ (Quiet.imp (Q_conv64 (.tmp rfl) (by kernel_rfl) Tryz.underlying3 (by first | omega | simp <;> omega) (by first | omega | simp <;> omega)) (imp_eq (congrArg (VInt .i64) (show _ = ((x : Nat) : Int) by omega)))) rfl ?_
      refine JA rfl rfl ?_
      refine JN ?_
      refine J_seqJ (ι := Nat) (fun y => y = (if x ≥ b - a then x - (b - a) else x)) (fun y => [(10, VInt .i64 (y : Nat))]) [(0, _), (1, _), (6, _), (7, _), (8, _), (9, _)] (fun y => [RowR 38 v (brk d0 a (b - a) k).2.toList, BoxR 224 b7 (Sort.xorNext (brk d0 a (b - a) k).1)]) ⟨rfl, rfl, rfl, rfl, rfl, rfl, trivial⟩ ?_ ?_
      · skip
        refine JSR ?_
        refine JM rfl rfl ?_
        refine JM rfl rfl ?_
        refine JQ (Q_geq (.tmp rfl) (.tmp rfl)) rfl ?_
        refine JN ?_
        refine J_cond (.tmp rfl) (fun h2 => ?_) (fun h2 => ?_)
        · try simp only [BS, ne_eq] at h2
          refine J_region ?_
          refine JM rfl rfl ?_
          refine JM rfl rfl ?_
          refine JQ (Quiet.imp (Q_subi (.tmp rfl) (.tmp rfl) (by first | omega | simp <;> omega) (by first | omega | simp <;> omega)) (imp_eq (vint_eq (show _ = ((x - (b - a) : Nat) : Int) by first | omega | (simp; omega))))) rfl ?_
          refine JA rfl rfl ?_
          refine JN ?_
          refine J_back (x - (b - a)) ?_ ?_ ?_ ?_
          · exact (by rw [if_pos (by first | omega | simp <;> omega)])
          · exact ⟨fe rfl (by first | rfl | exact vint_eq (by first | omega | simp <;> omega) | exact vsl_eq (by simp) | exact vstr_eq (by simp)), trivial⟩
          · exact ⟨rfl, rfl, rfl, rfl, rfl, rfl, trivial⟩
          · exact (Has.take (Repl.row (by repeat first | exact R0 | apply RT) (by first | rfl | simp)) (Has.take (Repl.box (by repeat first | exact R0 | apply RT) (by first | rfl | simp)) Has.nil))
        try simp only [BS, ne_eq] at h2
        refine J_skip ?_
        refine J_then_normal ?_
        refine J_back (x) ?_ ?_ ?_ ?_
        · exact (by rw [if_neg (by first | omega | simp <;> omega)])
        · exact ⟨fe rfl (by first | rfl | exact vint_eq (by first | omega | simp <;> omega) | exact vsl_eq (by simp) | exact vstr_eq (by simp)), trivial⟩
        · exact ⟨rfl, rfl, rfl, rfl, rfl, rfl, trivial⟩
        · exact (Has.take (Repl.row (by repeat first | exact R0 | apply RT) (by first | rfl | simp)) (Has.take (Repl.box (by repeat first | exact R0 | apply RT) (by first | rfl | simp)) Has.nil))
      intro y hy
      have hyl : y < b - a := by rw [hy]; split <;> omega
      refine J_region ?_
      refine JM rfl rfl ?_
      refine JM rfl rfl ?_
      refine JM rfl rfl ?_
      refine JM rfl rfl ?_
      refine JQ (Quiet.imp (Q_addi (.tmp rfl) (.tmp rfl) (by first | omega | simp <;> omega) (by first | omega | simp <;> omega)) (imp_eq (vint_eq (show _ = ((a + y : Nat) : Int) by first | omega | (simp; omega))))) rfl ?_
      refine J_invoke findsSwap (rowSwap_c _ ((brk d0 a (b - a) k).2) (a + (b - a) / 4 * 2 - 1 + k) (a + y) ?_ ?_) (.tmp rfl) ⟨(.tmp rfl), (.tmp rfl), trivial⟩ (Split.take (by repeat first | exact R0 | apply RT) Split.nil) rfl (fun r52 hr52 => ?_)
      · first | omega | (simp only [Sort.size_swp]; omega)
      · first | omega | (simp only [Sort.size_swp]; omega)
      refine J_nil ?_
      refine J_blk_normal ?_
      refine J_then_normal ?_
      refine J_region ?_
      refine JM rfl rfl ?_
      refine JQ (Quiet.imp (Q_addi (.tmp rfl) At.int (by first | omega | simp <;> omega) (by first | omega | simp <;> omega)) (imp_eq (vint_eq (show _ = ((a + (b - a) / 4 * 2 - 1 + (k + 1) : Nat) : Int) by first | omega | (simp; omega))))) rfl ?_
      refine JA rfl rfl ?_
      refine JN ?_
      have ek : brk d0 a (b - a) (k + 1) = (Sort.xorNext (brk d0 a (b - a) k).1, Sort.swp (brk d0 a (b - a) k).2 (a + (b - a) / 4 * 2 - 1 + k) (a + y)) := by rw [hy, ← hxe]; rfl
      refine J_back (k + 1) ?_ ?_ ?_ ?_
      · exact ⟨by omega, by omega⟩
      · exact ⟨fe rfl (by first | rfl | exact vint_eq (by first | omega | simp <;> omega) | exact vsl_eq (by simp) | exact vstr_eq (by simp)), trivial⟩
      · exact ⟨rfl, rfl, rfl, rfl, rfl, trivial⟩
      · exact (Has.take (Repl.row (by repeat first | exact R0 | apply RT) (by rw [ek])) (Has.take (Repl.box (by repeat first | exact R0 | apply RT) (by rw [ek])) Has.nil))
    try simp only [BS, ne_eq] at h1
    refine J_exit ?_
    refine J_then_exit ?_
    refine J_then_exit ?_
    refine J_blk_out ?_
    obtain rfl : k = 3 := (by first | omega | simp <;> omega)
    exact J_end0 rfl () trivial (Split.take (Repl.row (by repeat first | exact R0 | apply RT) (by rw [brk_eq d0 a b (by first | omega | simp <;> omega)])) Split.nil) (fun _ _ => vtup0 _ _)
  try simp only [BS, ne_eq] at h0
  omega
end Go.Sep
namespace Go.Sep
open Go Go.Proofs
open Enc (V)
theorem bytesLess_lt : ∀ (s t : Bs), Op.bytesLess s t = decide (s < t)
  | [], [] => by simp [Op.bytesLess]
  | [], _ :: _ => by simp [Op.bytesLess]
  | _ :: _, [] => by simp [Op.bytesLess]
  | a :: s, b :: t => by
    have ih := bytesLess_lt s t
    unfold Op.bytesLess
    by_cases h1 : a < b
    · simp [h1, List.cons_lt_cons_iff]
    · by_cases h2 : b < a
      · have : a ≠ b := fun e => by subst e; exact h1 h2
        simp [h1, h2, this, List.cons_lt_cons_iff]
      · have : a = b := UInt8.toNat_inj.1 (by rw [UInt8.lt_iff_toNat_lt] at h1 h2; omega)
        subst this
        simp [ih, List.cons_lt_cons_iff]
theorem swoO : Sort.SWO ltO where
  irrefl x := by simp only [ltO]; rw [bytesLess_lt]; exact Sort.swo_ltStr.irrefl x.l
  trans x y z := by simp only [ltO, bytesLess_lt]; exact Sort.swo_ltStr.trans x.l y.l z.l
  ntrans x y z := by simp only [ltO, bytesLess_lt]; exact Sort.swo_ltStr.ntrans x.l y.l z.l
theorem ltO_eq {x y : Oid} (h1 : ltO x y = false) (h2 : ltO y x = false) : x = y := by
  apply Arr.ext'
  simp only [ltO, bytesLess_lt, decide_eq_false_iff_not, List.not_lt] at h1 h2
  exact List.le_antisymm h2 h1
structure PInv (d0 : Array Oid) (a b a1 b1 : Nat) (d : Array Oid) : Prop where
  lo : a ≤ a1
  mid : a1 ≤ b1
  hi : b1 ≤ b
  size : d.size = d0.size
  below : Sort.Below ltO a1 b1 d
  fin : ∀ R, Sort.PermIn a1 b1 d R → Sort.SortedIn ltO a1 b1 R → Sort.PermIn a b d0 R ∧ Sort.SortedIn ltO a b R
theorem PInv.perm {d0 d d1 : Array Oid} {a b a1 b1 : Nat} (h : PInv d0 a b a1 b1 d) (hb : b ≤ d0.size) (hp : Sort.PermIn a1 b1 d d1) : PInv d0 a b a1 b1 d1 :=
  ⟨h.lo, h.mid, h.hi, hp.1.trans h.size, h.below.perm (by have := h.hi; have := h.size; omega) hp, fun R h1 h2 => h.fin R (Sort.permIn_trans _ _ _ _ _ hp h1) h2⟩
attribute [local irreducible] Quiet QStep J At FnX Fn FnP Repl Split Has Post Back GoZ
theorem pdq_c : ∀ (N : Nat) (v : Value) (d0 : Array Oid) (a b limit : Nat), b - a ≤ N → a ≤ b → b ≤ d0.size → d0.size ≤ 1152921504606846976 → limit ≤ 100 → Sort.Below ltO a b d0 → Fn Tryz.prog 86 [IR v, VInt .i64 (a : Nat), VInt .i64 (b : Nat), VInt .i64 (limit : Nat)]
    [RowR 38 v d0.toList] (fun d : Array Oid => Sort.PermIn a b d0 d ∧ Sort.SortedIn ltO a b d) (fun _ => VTup []) (fun d => [RowR 38 v d.toList]) := by
  intro N
  induction N using Nat.strongRecOn with
  | ind N ih =>
  intro v d0 a b limit hN hab hb hs hlim hB
  refine Fn_intro (by kernel_rfl) Tryz.func86 rfl Tryz.ntmps86 rfl (fun e => ?_)
  refine JSR ?_
  refine JQ (Q_assign At.bool) rfl ?_
  refine JNSR ?_
  refine JQ (Q_assign At.bool) rfl ?_
  refine JN ?_
  refine J_block ?_
  refine J_loopU (ι := Nat × Nat × Nat × Bool × Bool × Array Oid) (fun q => match q with | (a1, b1, lim, wb, wp, d) => lim ≤ 100 ∧ PInv d0 a b a1 b1 d) (fun q => match q with | (a1, b1, lim, wb, wp, d) => [(1, VInt .i64 (a1 : Nat)), (2, VInt .i64 (b1 : Nat)), (3, VInt .i64 (lim : Nat)), (8, VBool wb), (9, VBool wp)]) [(0, _)] (fun q => match q with | (a1, b1, lim, wb, wp, d) => [RowR 38 v d.toList]) (fun q => match q with | (a1, b1, lim, wb, wp, d) => b1 - a1) ((a, b, limit, true, true, d0)) ⟨hlim, ⟨Nat.le_refl _, hab, Nat.le_refl _, rfl, hB, fun R h1 h2 => ⟨h1, h2⟩⟩⟩ ⟨fe rfl (by first | rfl | exact vint_eq (by first | omega | simp <;> omega) | exact vsl_eq (by simp) | exact vstr_eq (by simp)), fe rfl (by first | rfl | exact vint_eq (by first | omega | simp <;> omega) | exact vsl_eq (by simp) | exact vstr_eq (by simp)), fe rfl (by first | rfl | exact vint_eq (by first | omega | simp <;> omega) | exact vsl_eq (by simp) | exact vstr_eq (by simp)), fe rfl (by first | rfl | exact vint_eq (by first | omega | simp <;> omega) | exact vsl_eq (by simp) | exact vstr_eq (by simp)), fe rfl (by first | rfl | exact vint_eq (by first | omega | simp <;> omega) | exact vsl_eq (by simp) | exact vstr_eq (by simp)), trivial⟩ ⟨rfl, trivial⟩ (Has.take (Repl.row (by repeat first | exact R0 | apply RT) (by first | rfl | simp)) Has.nil) (fun q hq => ?_)
  obtain ⟨a1, b1, lim, wb, wp, d⟩ := q
  try dsimp only at hq
  obtain ⟨hl1, hI⟩ := hq
  have i1 := hI.lo
  have i2 := hI.mid
  have i3 := hI.hi
  have i4 := hI.size
  refine J_block ?_
  refine JSR ?_
  refine JM rfl rfl ?_
  refine JM rfl rfl ?_
  refine JQ (Quiet.imp (Q_subi (.tmp rfl) (.tmp rfl) (by first | omega | simp <;> omega) (by first | omega | simp <;> omega)) (imp_eq (vint_eq (show _ = ((b1 - a1 : Nat) : Int) by first | omega | (simp; omega))))) rfl ?_
  refine JA rfl rfl ?_
  refine JNSSR ?_
  refine JM rfl rfl ?_
  refine JQ (Q_leq (.tmp rfl) At.int) rfl ?_
  refine JN ?_
  refine J_cond (.tmp rfl) (fun h0 => ?_) (fun h0 => ?_)
  · try simp only [BS, ne_eq] at h0
    refine JSR ?_
    refine JM rfl rfl ?_
    refine JM rfl rfl ?_
    refine JM rfl rfl ?_
    refine J_call (insSort_c _ _ _ _ ?_ ?_ ?_) ⟨(.tmp rfl), (.tmp rfl), (.tmp rfl), trivial⟩ (Split.take (by repeat first | exact R0 | apply RT) Split.nil) rfl (fun r27 hr27 => ?_)
    · exact (by first | omega | simp <;> omega)
    · exact (by first | omega | simp <;> omega)
    · exact (by first | omega | simp <;> omega)
    refine JN ?_
    refine J_retc ?_
    refine J_then_ret ?_
    refine J_blk_ret ?_
    refine J_then_ret ?_
    refine J_blk_ret ?_
    exact J_ret0 rfl (Sort.insertionSort ltO d a1 b1) (hI.fin _ (Sort.insertionSort_holds swoO d a1 b1 (by first | omega | simp <;> omega) (by first | omega | simp <;> omega)).1 (Sort.insertionSort_holds swoO d a1 b1 (by first | omega | simp <;> omega) (by first | omega | simp <;> omega)).2) (Split.take (by repeat first | exact R0 | apply RT) Split.nil) (fun _ _ => vtup0 _ _)
  try simp only [BS, ne_eq] at h0
  refine J_skip ?_
  refine J_then_normal ?_
  refine J_seq ?_
  refine JSR ?_
  refine JM rfl rfl ?_
  refine JQ (Q_eql (.tmp rfl) At.int) rfl ?_
  refine JN ?_
  refine J_cond (.tmp rfl) (fun h1 => ?_) (fun h1 => ?_)
  · try simp only [BS, ne_eq] at h1
    refine JSR ?_
    refine JM rfl rfl ?_
    refine JM rfl rfl ?_
    refine JM rfl rfl ?_
    refine J_call (heapSort_c _ _ _ _ ?_ ?_ ?_) ⟨(.tmp rfl), (.tmp rfl), (.tmp rfl), trivial⟩ (Split.take (by repeat first | exact R0 | apply RT) Split.nil) rfl (fun r33 hr33 => ?_)
    · exact (by first | omega | simp <;> omega)
    · exact (by first | omega | simp <;> omega)
    · exact (by first | omega | simp <;> omega)
    refine JN ?_
    refine J_retc ?_
    refine J_then_ret ?_
    refine J_blk_ret ?_
    refine J_then_ret ?_
    refine J_blk_ret ?_
    exact J_ret0 rfl (Sort.heapSort ltO d a1 b1) (hI.fin _ (Sort.heapSort_holds swoO d a1 b1 (by first | omega | simp <;> omega) (by first | omega | simp <;> omega)).1 (Sort.heapSort_holds swoO d a1 b1 (by first | omega | simp <;> omega) (by first | omega | simp <;> omega)).2) (Split.take (by repeat first | exact R0 | apply RT) Split.nil) (fun _ _ => vtup0 _ _)
  try simp only [BS, ne_eq] at h1
  refine J_skip ?_
  refine J_then_normal ?_
  refine J_seqJ (ι := Nat × Array Oid) (fun q => match q with | (lim2, d1) => lim2 ≤ 100 ∧ PInv d0 a b a1 b1 d1) (fun q => match q with | (lim2, d1) => [(3, VInt .i64 (lim2 : Nat))]) [(0, _), (1, _), (2, _), (8, _), (9, _), (10, _)] (fun q => match q with | (lim2, d1) => [RowR 38 v d1.toList]) ⟨rfl, rfl, rfl, rfl, rfl, rfl, trivial⟩ ?_ ?_
  · skip
    refine JSR ?_
    refine JM rfl rfl ?_
    refine JQ (Q_not (.tmp rfl)) rfl ?_
    refine JN ?_
    refine J_cond (.tmp rfl) (fun h2 => ?_) (fun h2 => ?_)
    · try simp only [BS, ne_eq] at h2
      refine JSR ?_
      refine JM rfl rfl ?_
      refine JM rfl rfl ?_
      refine JM rfl rfl ?_
      refine J_call (break_c _ _ _ _ ?_ ?_ ?_) ⟨(.tmp rfl), (.tmp rfl), (.tmp rfl), trivial⟩ (Split.take (by repeat first | exact R0 | apply RT) Split.nil) rfl (fun r39 hr39 => ?_)
      · exact (by first | omega | simp <;> omega)
      · exact (by first | omega | simp <;> omega)
      · exact (by first | omega | simp <;> omega)
      refine JNR ?_
      refine JM rfl rfl ?_
      refine JQ (Quiet.imp (Q_subi (.tmp rfl) At.int (by first | omega | simp <;> omega) (by first | omega | simp <;> omega)) (imp_eq (vint_eq (show _ = ((lim - 1 : Nat) : Int) by first | omega | (simp; omega))))) rfl ?_
      refine JA rfl rfl ?_
      refine JN ?_
      refine J_back ((lim - 1, Sort.breakPatterns d a1 b1)) ?_ ?_ ?_ ?_
      · exact ⟨by omega, hI.perm hb (Sort.breakPatterns_holds d a1 b1 (by first | omega | simp <;> omega) (by first | omega | simp <;> omega))⟩
      · exact ⟨fe rfl (by first | rfl | exact vint_eq (by first | omega | simp <;> omega) | exact vsl_eq (by simp) | exact vstr_eq (by simp)), trivial⟩
      · exact ⟨rfl, rfl, rfl, rfl, rfl, rfl, trivial⟩
      · exact (Has.take (Repl.row (by repeat first | exact R0 | apply RT) (by first | rfl | simp)) Has.nil)
    try simp only [BS, ne_eq] at h2
    refine J_skip ?_
    refine J_then_normal ?_
    refine J_back ((lim, d)) ?_ ?_ ?_ ?_
    · exact ⟨by omega, hI⟩
    · exact ⟨fe rfl (by first | rfl | exact vint_eq (by first | omega | simp <;> omega) | exact vsl_eq (by simp) | exact vstr_eq (by simp)), trivial⟩
    · exact ⟨rfl, rfl, rfl, rfl, rfl, rfl, trivial⟩
    · exact (Has.take (Repl.row (by repeat first | exact R0 | apply RT) (by first | rfl | simp)) Has.nil)
  intro q_1 hq_1
  obtain ⟨lim2, d1⟩ := q_1
  try dsimp only at hq_1
  obtain ⟨hl2, hI1⟩ := hq_1
  have i5 := hI1.size
  refine JSR ?_
  refine JM rfl rfl ?_
  refine JM rfl rfl ?_
  refine JM rfl rfl ?_
  refine J_call (pivot_c _ _ _ _ ?_ ?_ ?_) ⟨(.tmp rfl), (.tmp rfl), (.tmp rfl), trivial⟩ (Split.take (by repeat first | exact R0 | apply RT) Split.nil) rfl (fun r46 hr46 => ?_)
  · exact (by first | omega | simp <;> omega)
  · exact (by first | omega | simp <;> omega)
  · exact (by first | omega | simp <;> omega)
  refine JM rfl rfl ?_
  refine JQ (Q_extract (.tmp rfl) rfl) rfl ?_
  refine JQ (Q_extract (.tmp rfl) rfl) rfl ?_
  refine JA rfl rfl ?_
  refine JA rfl rfl ?_
  refine JN ?_
  refine J_seqJ (ι := Nat × Int × Array Oid) (fun q => match q with | (pv, hint, d2) => a1 ≤ pv ∧ pv < b1 ∧ PInv d0 a b a1 b1 d2) (fun q => match q with | (pv, hint, d2) => [(11, VInt .i64 (pv : Nat)), (12, VInt .i64 hint)]) [(0, _), (1, _), (2, _), (3, _), (8, _), (9, _), (10, _)] (fun q => match q with | (pv, hint, d2) => [RowR 38 v d2.toList]) ⟨rfl, rfl, rfl, rfl, rfl, rfl, rfl, trivial⟩ ?_ ?_
  · skip
    refine J_seq ?_
    have hc0 := Sort.choosePivot_holds ltO d1 a1 b1 (by first | omega | simp <;> omega)
    generalize Sort.choosePivot ltO d1 a1 b1 = cp at hc0 ⊢
    refine J_region ?_
    refine JM rfl rfl ?_
    refine JQ (Q_eql (.tmp rfl) At.int) rfl ?_
    refine JN ?_
    refine J_cond (.tmp rfl) (fun h3 => ?_) (fun h3 => ?_)
    · try simp only [BS, ne_eq] at h3
      refine JSR ?_
      refine JM rfl rfl ?_
      refine JM rfl rfl ?_
      refine JM rfl rfl ?_
      refine J_call (reverse_c _ _ _ _ ?_ ?_ ?_) ⟨(.tmp rfl), (.tmp rfl), (.tmp rfl), trivial⟩ (Split.take (by repeat first | exact R0 | apply RT) Split.nil) rfl (fun r54 hr54 => ?_)
      · exact (by first | omega | simp <;> omega)
      · exact (by first | omega | simp <;> omega)
      · exact (by first | omega | simp <;> omega)
      refine JNSR ?_
      refine JM rfl rfl ?_
      refine JQ (Quiet.imp (Q_subi (.tmp rfl) At.int (by first | omega | simp <;> omega) (by first | omega | simp <;> omega)) (imp_eq (vint_eq (show _ = ((b1 - 1 : Nat) : Int) by first | omega | (simp; omega))))) rfl ?_
      refine JM rfl rfl ?_
      refine JM rfl rfl ?_
      refine JQ (Quiet.imp (Q_subi (.tmp rfl) (.tmp rfl) (by first | omega | simp <;> omega) (by first | omega | simp <;> omega)) (imp_eq (vint_eq (show _ = ((cp.1 - a1 : Nat) : Int) by first | omega | (simp; omega))))) rfl ?_
      refine JQ (Quiet.imp (Q_subi (.tmp rfl) (.tmp rfl) (by first | omega | simp <;> omega) (by first | omega | simp <;> omega)) (imp_eq (vint_eq (show _ = ((b1 - 1 - (cp.1 - a1) : Nat) : Int) by first | omega | (simp; omega))))) rfl ?_
      refine JA rfl rfl ?_
      refine JNR ?_
      refine JQ (Q_assign At.int) rfl ?_
      refine JN ?_
      refine J_back ((b1 - 1 - (cp.1 - a1), 1, Sort.reverseRange d1 a1 b1)) ?_ ?_ ?_ ?_
      · exact ⟨by omega, by omega, hI1.perm hb (Sort.reverseRange_holds d1 a1 b1 (by first | omega | simp <;> omega) (by first | omega | simp <;> omega))⟩
      · exact ⟨fe rfl (by first | rfl | exact vint_eq (by first | omega | simp <;> omega) | exact vsl_eq (by simp) | exact vstr_eq (by simp)), fe rfl (by first | rfl | exact vint_eq (by first | omega | simp <;> omega) | exact vsl_eq (by simp) | exact vstr_eq (by simp)), trivial⟩
      · exact ⟨rfl, rfl, rfl, rfl, rfl, rfl, rfl, trivial⟩
      · exact (Has.take (Repl.row (by repeat first | exact R0 | apply RT) (by first | rfl | simp)) Has.nil)
    try simp only [BS, ne_eq] at h3
    refine J_skip ?_
    refine J_then_normal ?_
    refine J_back ((cp.1, Sort.hintCode cp.2, d1)) ?_ ?_ ?_ ?_
    · exact ⟨by omega, by omega, hI1⟩
    · exact ⟨fe rfl (by first | rfl | exact vint_eq (by first | omega | simp <;> omega) | exact vsl_eq (by simp) | exact vstr_eq (by simp)), fe rfl (by first | rfl | exact vint_eq (by first | omega | simp <;> omega) | exact vsl_eq (by simp) | exact vstr_eq (by simp)), trivial⟩
    · exact ⟨rfl, rfl, rfl, rfl, rfl, rfl, rfl, trivial⟩
    · exact (Has.take (Repl.row (by repeat first | exact R0 | apply RT) (by first | rfl | simp)) Has.nil)
  intro q_2 hq_2
  obtain ⟨pv, hint, d2⟩ := q_2
  try dsimp only at hq_2
  obtain ⟨hp1, hp2, hI2⟩ := hq_2
  have i6 := hI2.size
  refine J_seqJ (ι := Array Oid) (fun d3 => PInv d0 a b a1 b1 d3) (fun d3 => []) [(0, _), (1, _), (2, _), (3, _), (8, _), (9, _), (10, _), (11, _)] (fun d3 => [RowR 38 v d3.toList]) ⟨rfl, rfl, rfl, rfl, rfl, rfl, rfl, rfl, trivial⟩ ?_ ?_
  · skip
    refine JSR ?_
    refine JM rfl rfl ?_
    refine JM rfl rfl ?_
    refine J_qstep (QG rfl rfl rfl rfl rfl opt_bool (fun hg => Q_move (.tmp rfl))) rfl rfl ?_
    refine JQ (Q_andB (.tmp rfl) (fun hb => At.opt rfl (by simp only [BS, ne_eq] at hb ⊢; first | exact hb | simp_all))) rfl ?_
    refine JM rfl rfl ?_
    refine J_qstep (QG rfl rfl rfl rfl rfl opt_bool (fun hg => Q_move (.tmp rfl))) rfl rfl ?_
    refine J_qstep (QG rfl rfl rfl rfl rfl opt_bool (fun hg => (by have hg0 := hg; simp only [BS, ne_eq] at hg0; exact Q_eql (At.opt rfl (by first | exact hg | (simp only [BS, ne_eq] at hg ⊢; first | exact hg | simp_all))) At.int))) rfl rfl ?_
    refine JQ (Q_andB (.tmp rfl) (fun hb => At.opt rfl (by simp only [BS, ne_eq] at hb ⊢; first | exact hb | simp_all))) rfl ?_
    refine JN ?_
    refine J_cond (.tmp rfl) (fun h4 => ?_) (fun h4 => ?_)
    · try simp only [BS, ne_eq] at h4
      refine JSR ?_
      refine JM rfl rfl ?_
      refine JM rfl rfl ?_
      refine JM rfl rfl ?_
      refine J_call (partIns_c _ _ _ _ ?_ ?_ ?_) ⟨(.tmp rfl), (.tmp rfl), (.tmp rfl), trivial⟩ (Split.take (by repeat first | exact R0 | apply RT) Split.nil) rfl (fun r72 hr72 => ?_)
      · exact (by first | omega | simp <;> omega)
      · exact (by first | omega | simp <;> omega)
      · exact (by first | omega | simp <;> omega)
      refine JN ?_
      refine J_cond (.tmp rfl) (fun h5 => ?_) (fun h5 => ?_)
      · try simp only [BS, ne_eq] at h5
        refine J_retc ?_
        refine J_then_ret ?_
        refine J_blk_ret ?_
        refine J_then_ret ?_
        refine J_blk_ret ?_
        exact J_ret0 rfl (Sort.partialInsertionSort ltO d2 a1 b1).1 (hI2.fin _ (Sort.partialInsertionSort_holds swoO d2 a1 b1 (by first | omega | simp <;> omega) (by first | omega | simp <;> omega) hI2.below).1 ((Sort.partialInsertionSort_holds swoO d2 a1 b1 (by first | omega | simp <;> omega) (by first | omega | simp <;> omega) hI2.below).2 h5)) (Split.take (by repeat first | exact R0 | apply RT) Split.nil) (fun _ _ => vtup0 _ _)
      try simp only [BS, ne_eq] at h5
      refine J_skip ?_
      refine J_then_normal ?_
      refine J_back ((Sort.partialInsertionSort ltO d2 a1 b1).1) ?_ ?_ ?_ ?_
      · exact (hI2.perm hb (Sort.partialInsertionSort_holds swoO d2 a1 b1 (by first | omega | simp <;> omega) (by first | omega | simp <;> omega) hI2.below).1)
      · exact trivial
      · exact ⟨rfl, rfl, rfl, rfl, rfl, rfl, rfl, rfl, trivial⟩
      · exact (Has.take (Repl.row (by repeat first | exact R0 | apply RT) (by first | rfl | simp)) Has.nil)
    try simp only [BS, ne_eq] at h4
    refine J_skip ?_
    refine J_then_normal ?_
    refine J_back (d2) ?_ ?_ ?_ ?_
    · exact hI2
    · exact trivial
    · exact ⟨rfl, rfl, rfl, rfl, rfl, rfl, rfl, rfl, trivial⟩
    · exact (Has.take (Repl.row (by repeat first | exact R0 | apply RT) (by first | rfl | simp)) Has.nil)
  intro d3 hI3
  have i7 := hI3.size
  refine J_seq ?_
  refine JSR ?_
  refine JM rfl rfl ?_
  refine JQ (Q_gtr (.tmp rfl) At.int) rfl ?_
  refine JM rfl rfl ?_
  refine J_qstep (QG rfl rfl rfl rfl rfl opt_bool (fun hg => Q_move (.tmp rfl))) rfl rfl ?_
  refine J_qstep (QG rfl rfl rfl rfl rfl opt_bool (fun hg => Q_move (.tmp rfl))) rfl rfl ?_
  refine J_qstep (QG rfl rfl rfl rfl rfl opt_bool (fun hg => (by have hg0 := hg; simp only [BS, ne_eq] at hg0; exact Quiet.imp (Q_subi (At.opt rfl (by first | exact hg | (simp only [BS, ne_eq] at hg ⊢; first | exact hg | simp_all))) At.int (by first | omega | simp <;> omega) (by first | omega | simp <;> omega)) (imp_eq (vint_eq (show _ = ((a1 - 1 : Nat) : Int) by first | omega | (simp; omega))))))) rfl rfl ?_
  refine J_qstep (QG rfl rfl rfl rfl rfl opt_bool (fun hg => Q_move (.tmp rfl))) rfl rfl ?_
  refine J_qstep (QG rfl rfl rfl rfl rfl opt_bool (fun hg => (by have hg0 := hg; simp only [BS, ne_eq] at hg0; exact Q_invokeRow findsLess (rowLess_c (d3) (a1 - 1) (pv) (by first | omega | (simp only [Sort.size_swp]; omega)) (by first | omega | (simp only [Sort.size_swp]; omega))) (At.opt rfl (by first | exact hg | (simp only [BS, ne_eq] at hg ⊢; first | exact hg | simp_all))) ⟨(At.opt rfl (by first | exact hg | (simp only [BS, ne_eq] at hg ⊢; first | exact hg | simp_all))), (At.opt rfl (by first | exact hg | (simp only [BS, ne_eq] at hg ⊢; first | exact hg | simp_all))), trivial⟩ (by repeat first | exact R0 | apply RT)))) rfl rfl ?_
  refine J_qstep (QG rfl rfl rfl rfl rfl opt_bool (fun hg => (by have hg0 := hg; simp only [BS, ne_eq] at hg0; exact Q_not (At.opt rfl (by first | exact hg | (simp only [BS, ne_eq] at hg ⊢; first | exact hg | simp_all)))))) rfl rfl ?_
  refine JQ (Q_andB (.tmp rfl) (fun hb => At.opt rfl (by simp only [BS, ne_eq] at hb ⊢; first | exact hb | simp_all))) rfl ?_
  refine JN ?_
  refine J_cond (.tmp rfl) (fun h6 => ?_) (fun h6 => ?_)
  · try simp only [BS, ne_eq] at h6
    refine JSR ?_
    refine JM rfl rfl ?_
    refine JM rfl rfl ?_
    refine JM rfl rfl ?_
    refine JM rfl rfl ?_
    refine J_call (partEq_c _ _ _ _ _ ?_ ?_ ?_ ?_) ⟨(.tmp rfl), (.tmp rfl), (.tmp rfl), (.tmp rfl), trivial⟩ (Split.take (by repeat first | exact R0 | apply RT) Split.nil) rfl (fun r87 hr87 => ?_)
    · exact (by first | omega | simp <;> omega)
    · exact (by first | omega | simp <;> omega)
    · exact (by first | omega | simp <;> omega)
    · exact (by first | omega | simp <;> omega)
    refine JA rfl rfl ?_
    refine JNSR ?_
    refine JM rfl rfl ?_
    refine JA rfl rfl ?_
    refine JN ?_
    refine J_exit ?_
    refine J_then_exit ?_
    refine J_blk_out ?_
    refine J_then_normal ?_
    obtain ⟨q1, q2, q3, q4, q5⟩ := Sort.round_eq swoO (Sort.partitionEqual_holds ltO) (by first | omega | simp <;> omega) hp1 hp2 (by first | omega | simp <;> omega) hI3.below h6.2 (show Sort.partitionEqual ltO d3 a1 b1 pv = ((Sort.partitionEqual ltO d3 a1 b1 pv).1, (Sort.partitionEqual ltO d3 a1 b1 pv).2) from rfl)
    refine J_back (((Sort.partitionEqual ltO d3 a1 b1 pv).1, b1, lim2, wb, wp, (Sort.partitionEqual ltO d3 a1 b1 pv).2)) ?_ ?_ ?_ ?_
    · exact ⟨⟨by omega, ⟨by omega, q2, i3, by rw [q3]; exact hI3.size, q4, fun R s1 s2 => hI3.fin R (q5 R s1 s2).1 (q5 R s1 s2).2⟩⟩, by simp only; omega⟩
    · exact ⟨fe rfl (by first | rfl | exact vint_eq (by first | omega | simp <;> omega) | exact vsl_eq (by simp) | exact vstr_eq (by simp)), fe rfl (by first | rfl | exact vint_eq (by first | omega | simp <;> omega) | exact vsl_eq (by simp) | exact vstr_eq (by simp)), fe rfl (by first | rfl | exact vint_eq (by first | omega | simp <;> omega) | exact vsl_eq (by simp) | exact vstr_eq (by simp)), fe rfl (by first | rfl | exact vint_eq (by first | omega | simp <;> omega) | exact vsl_eq (by simp) | exact vstr_eq (by simp)), fe rfl (by first | rfl | exact vint_eq (by first | omega | simp <;> omega) | exact vsl_eq (by simp) | exact vstr_eq (by simp)), trivial⟩
    · exact ⟨rfl, trivial⟩
    · exact (Has.take (Repl.row (by repeat first | exact R0 | apply RT) (by first | rfl | simp)) Has.nil)
  try simp only [BS, ne_eq] at h6
  refine J_skip ?_
  refine J_then_normal ?_
  refine JSR ?_
  refine JM rfl rfl ?_
  refine JM rfl rfl ?_
  refine JM rfl rfl ?_
  refine JM rfl rfl ?_
  refine J_call (partition_c _ _ _ _ _ ?_ ?_ ?_ ?_) ⟨(.tmp rfl), (.tmp rfl), (.tmp rfl), (.tmp rfl), trivial⟩ (Split.take (by repeat first | exact R0 | apply RT) Split.nil) rfl (fun r94 hr94 => ?_)
  · exact (by first | omega | simp <;> omega)
  · exact (by first | omega | simp <;> omega)
  · exact (by first | omega | simp <;> omega)
  · exact (by first | omega | simp <;> omega)
  refine JM rfl rfl ?_
  refine JQ (Q_extract (.tmp rfl) rfl) rfl ?_
  refine JQ (Q_extract (.tmp rfl) rfl) rfl ?_
  refine JA rfl rfl ?_
  refine JA rfl rfl ?_
  refine JN ?_
  refine J_seq ?_
  generalize hx0 : Sort.partition ltO d3 a1 b1 pv = r
  have hx : Sort.partition ltO d3 a1 b1 pv = (r.1, r.2.1, r.2.2) := hx0
  obtain ⟨g1, g2, hs4, hBa, hBr, hleft, hright⟩ := Sort.round_part swoO (Sort.partition_holds ltO) hp1 hp2 (by first | omega | simp <;> omega) hI3.below hx
  refine J_region ?_
  refine JM rfl rfl ?_
  refine JA rfl rfl ?_
  refine JNSR ?_
  refine JM rfl rfl ?_
  refine JM rfl rfl ?_
  refine JQ (Quiet.imp (Q_subi (.tmp rfl) (.tmp rfl) (by first | omega | simp <;> omega) (by first | omega | simp <;> omega)) (imp_eq (vint_eq (show _ = ((r.1 - a1 : Nat) : Int) by first | omega | (simp; omega))))) rfl ?_
  refine JM rfl rfl ?_
  refine JM rfl rfl ?_
  refine JQ (Quiet.imp (Q_subi (.tmp rfl) (.tmp rfl) (by first | omega | simp <;> omega) (by first | omega | simp <;> omega)) (imp_eq (vint_eq (show _ = ((b1 - r.1 : Nat) : Int) by first | omega | (simp; omega))))) rfl ?_
  refine JA rfl rfl ?_
  refine JA rfl rfl ?_
  refine JNSR ?_
  refine JM rfl rfl ?_
  refine JQ (Q_quoi (.tmp rfl) At.int (by first | omega | simp <;> omega) (by first | omega | simp <;> omega) (by first | omega | simp <;> omega)) rfl ?_
  refine JA rfl rfl ?_
  refine JNSR ?_
  refine JM rfl rfl ?_
  refine JM rfl rfl ?_
  refine JQ (Q_lss (.tmp rfl) (.tmp rfl)) rfl ?_
  refine JN ?_
  refine J_cond (.tmp rfl) (fun h7 => ?_) (fun h7 => ?_)
  · try simp only [BS, ne_eq] at h7
    refine JSR ?_
    refine JM rfl rfl ?_
    refine JM rfl rfl ?_
    refine JQ (Q_geq (.tmp rfl) (.tmp rfl)) rfl ?_
    refine JA rfl rfl ?_
    refine JNSR ?_
    refine JM rfl rfl ?_
    refine JM rfl rfl ?_
    refine JM rfl rfl ?_
    refine JM rfl rfl ?_
    refine J_call (ih (r.1 - a1) ?_ v r.2.2 a1 r.1 lim2 ?_ ?_ ?_ ?_ ?_ ?_) ⟨(.tmp rfl), (.tmp rfl), (.tmp rfl), (.tmp rfl), trivial⟩ (Split.take (by repeat first | exact R0 | apply RT) Split.nil) rfl (fun r116 hr116 => ?_)
    · exact (by first | omega | simp <;> omega)
    · exact (by first | omega | simp <;> omega)
    · exact (by first | omega | simp <;> omega)
    · exact (by first | omega | simp <;> omega)
    · exact (by first | omega | simp <;> omega)
    · exact (by first | omega | simp <;> omega)
    · exact hBa
    refine JNR ?_
    refine JM rfl rfl ?_
    refine JQ (Quiet.imp (Q_addi (.tmp rfl) At.int (by first | omega | simp <;> omega) (by first | omega | simp <;> omega)) (imp_eq (vint_eq (show _ = ((r.1 + 1 : Nat) : Int) by first | omega | (simp; omega))))) rfl ?_
    refine JA rfl rfl ?_
    refine J_nil ?_
    refine J_blk_normal ?_
    refine J_then_normal ?_
    obtain ⟨l1, l2⟩ := hr116
    obtain ⟨q4, q5⟩ := hleft _ l1 l2
    have q6 := l1.1
    refine J_back ((r.1 + 1, b1, lim2, decide (((b1 - a1 : Nat) : Int) / 8 ≤ ((r.1 - a1 : Nat) : Int)), r.2.1, r116)) ?_ ?_ ?_ ?_
    · exact ⟨⟨by omega, ⟨by omega, by omega, i3, by omega, q4, fun R s1 s2 => hI3.fin R (q5 R s1 s2).1 (q5 R s1 s2).2⟩⟩, by simp only; omega⟩
    · exact ⟨fe rfl (by first | rfl | exact vint_eq (by first | omega | simp <;> omega) | exact vsl_eq (by simp) | exact vstr_eq (by simp)), fe rfl (by first | rfl | exact vint_eq (by first | omega | simp <;> omega) | exact vsl_eq (by simp) | exact vstr_eq (by simp)), fe rfl (by first | rfl | exact vint_eq (by first | omega | simp <;> omega) | exact vsl_eq (by simp) | exact vstr_eq (by simp)), fe rfl (by first | rfl | exact vint_eq (by first | omega | simp <;> omega) | exact vsl_eq (by simp) | exact vstr_eq (by simp)), fe rfl (by first | rfl | exact vint_eq (by first | omega | simp <;> omega) | exact vsl_eq (by simp) | exact vstr_eq (by simp)), trivial⟩
    · exact ⟨rfl, trivial⟩
    · exact (Has.take (Repl.row (by repeat first | exact R0 | apply RT) (by first | rfl | simp)) Has.nil)
  try simp only [BS, ne_eq] at h7
  refine JSR ?_
  refine JM rfl rfl ?_
  refine JM rfl rfl ?_
  refine JQ (Q_geq (.tmp rfl) (.tmp rfl)) rfl ?_
  refine JA rfl rfl ?_
  refine JNSR ?_
  refine JM rfl rfl ?_
  refine JM rfl rfl ?_
  refine JQ (Quiet.imp (Q_addi (.tmp rfl) At.int (by first | omega | simp <;> omega) (by first | omega | simp <;> omega)) (imp_eq (vint_eq (show _ = ((r.1 + 1 : Nat) : Int) by first | omega | (simp; omega))))) rfl ?_
  refine JM rfl rfl ?_
  refine JM rfl rfl ?_
  refine J_call (ih (b1 - (r.1 + 1)) ?_ v r.2.2 (r.1 + 1) b1 lim2 ?_ ?_ ?_ ?_ ?_ ?_) ⟨(.tmp rfl), (.tmp rfl), (.tmp rfl), (.tmp rfl), trivial⟩ (Split.take (by repeat first | exact R0 | apply RT) Split.nil) rfl (fun r127 hr127 => ?_)
  · exact (by first | omega | simp <;> omega)
  · exact (by first | omega | simp <;> omega)
  · exact (by first | omega | simp <;> omega)
  · exact (by first | omega | simp <;> omega)
  · exact (by first | omega | simp <;> omega)
  · exact (by first | omega | simp <;> omega)
  · exact hBr
  refine JNR ?_
  refine JM rfl rfl ?_
  refine JA rfl rfl ?_
  refine J_nil ?_
  refine J_blk_normal ?_
  refine J_then_normal ?_
  obtain ⟨l1, l2⟩ := hr127
  obtain ⟨q4, q5⟩ := hright _ l1 l2
  have q6 := l1.1
  refine J_back ((a1, r.1, lim2, decide (((b1 - a1 : Nat) : Int) / 8 ≤ ((b1 - r.1 : Nat) : Int)), r.2.1, r127)) ?_ ?_ ?_ ?_
  · exact ⟨⟨by omega, ⟨by omega, by omega, by omega, by omega, q4, fun R s1 s2 => hI3.fin R (q5 R s1 s2).1 (q5 R s1 s2).2⟩⟩, by simp only; omega⟩
  · exact ⟨fe rfl (by first | rfl | exact vint_eq (by first | omega | simp <;> omega) | exact vsl_eq (by simp) | exact vstr_eq (by simp)), fe rfl (by first | rfl | exact vint_eq (by first | omega | simp <;> omega) | exact vsl_eq (by simp) | exact vstr_eq (by simp)), fe rfl (by first | rfl | exact vint_eq (by first | omega | simp <;> omega) | exact vsl_eq (by simp) | exact vstr_eq (by simp)), fe rfl (by first | rfl | exact vint_eq (by first | omega | simp <;> omega) | exact vsl_eq (by simp) | exact vstr_eq (by simp)), fe rfl (by first | rfl | exact vint_eq (by first | omega | simp <;> omega) | exact vsl_eq (by simp) | exact vstr_eq (by simp)), trivial⟩
  · exact ⟨rfl, trivial⟩
  · exact (Has.take (Repl.row (by repeat first | exact R0 | apply RT) (by first | rfl | simp)) Has.nil)
end Go.Sep
namespace Go.Sep
open Go Go.Proofs
open Enc (V)
def sortL (l : List Oid) : List Oid := l.mergeSort (fun x y => !ltO y x)
def gO (l : List Oid) (i : Nat) : Oid := l.getD i GoZero.z
def dedN (l : List Oid) : Nat → List Oid
  | 0 => []
  | j + 1 => if j = 0 ∨ gO l j ≠ gO l (j - 1) then dedN l j ++ [gO l j] else dedN l j
def sortO (l : List Oid) : List Oid := dedN (sortL l) (sortL l).length
theorem gO_at {l : List Oid} {i : Nat} (h : i < l.length) : gO l i = l[i] := by simp [gO, h]
theorem dedN_len (l : List Oid) : ∀ j, (dedN l j).length ≤ j
  | 0 => by simp [dedN]
  | j + 1 => by have := dedN_len l j; unfold dedN; split <;> simp <;> omega
theorem take_gO {l : List Oid} {k : Nat} (h : k < l.length) : l.take (k + 1) = l.take k ++ [gO l k] := by rw [gO_at h, List.take_succ_eq_append_getElem h]
attribute [local irreducible] Quiet QStep J At FnX Fn FnP Repl Split Has Post Back GoZ
theorem sortRow_c (v : Value) (l : List Oid) (hl : l.length ≤ 1152921504606846976) : Fn Tryz.prog 61 [IR v] [RowR 38 v l] (fun _ : Unit => True) (fun _ => VTup []) (fun _ => [RowR 38 v (sortL l)]) := by
  have hbl : Sort.bitsLen l.length ≤ 64 := (Sort.bitsLen_le_iff _ 64).2 (by omega)
  refine Fn_intro (by kernel_rfl) Tryz.func61 rfl Tryz.ntmps61 rfl (fun e => ?_)
  refine JSR ?_
  refine JM rfl rfl ?_
  refine JQ (Q_invokeRow findsLen (rowLen_c _) (.tmp rfl) trivial (by repeat first | exact R0 | apply RT)) rfl ?_
  refine JA rfl rfl ?_
  refine JNSSR ?_
  refine JM rfl rfl ?_
  refine JQ (Q_leq (.tmp rfl) At.int) rfl ?_
  refine JN ?_
  refine J_cond (.tmp rfl) (fun h0 => ?_) (fun h0 => ?_)
  · try simp only [BS, ne_eq] at h0
    refine J_retc ?_
    refine J_then_ret ?_
    have e : sortL l = l := by rcases l with _ | ⟨x, _ | ⟨y, t⟩⟩; (simp [sortL]); (simp [sortL]); (simp at h0; omega)
    exact J_ret0 rfl () trivial (Split.take (Repl.row (by repeat first | exact R0 | apply RT) e.symm) Split.nil) (fun _ _ => vtup0 _ _)
  try simp only [BS, ne_eq] at h0
  refine J_skip ?_
  refine J_then_normal ?_
  refine JSR ?_
  refine JM rfl rfl ?_
  refine JQ (Quiet.imp (Q_to64 (.tmp rfl) (by kernel_rfl) Tryz.underlying163) (imp_eq (vint_eq (show _ = ((l.length : Nat) : Int) by rw [toU64_toNat]; omega)))) rfl ?_
  refine JQ (Q_call (len_c _ (by first | omega | simp <;> omega)) ⟨(.tmp rfl), trivial⟩) rfl ?_
  refine JA rfl rfl ?_
  refine JNR ?_
  refine JM rfl rfl ?_
  refine JM rfl rfl ?_
  refine JM rfl rfl ?_
  refine J_call (pdq_c l.length v l.toArray 0 l.length (Sort.bitsLen l.length) ?_ ?_ ?_ ?_ ?_ ?_) ⟨(.tmp rfl), At.int, (.tmp rfl), (.tmp rfl), trivial⟩ (Split.take (by repeat first | exact R0 | apply RT) Split.nil) rfl (fun r14 hr14 => ?_)
  · exact (by first | omega | simp <;> omega)
  · exact (by first | omega | simp <;> omega)
  · simp
  · simpa using hl
  · exact (by first | omega | simp <;> omega)
  · exact Or.inl rfl
  refine J_nil ?_
  have e : r14.toList = sortL l := Sort.sorted_unique_holds swoO (fun x y h1 h2 => ltO_eq h1 h2) l.toArray r14 (by simpa using hr14.1) (by simpa using hr14.2)
  exact J_end0 rfl () trivial (Split.take (Repl.row (by repeat first | exact R0 | apply RT) e) Split.nil) (fun _ _ => vtup0 _ _)
theorem cloneO_o (l : List Oid) (hl : l.length ≤ 4398046511104) : Fn Tryz.prog 60 [Sl l] [] (fun _ : Value => True) Is (fun v => [RowR 38 v l]) := by
  refine Fn_intro (by kernel_rfl) Tryz.func60 rfl Tryz.ntmps60 rfl (fun e => ?_)
  refine JSR ?_
  refine JQ (Q_assign At.const) rfl ?_
  refine JNSSR ?_
  refine JM rfl rfl ?_
  refine JQ (Q_slNil Tryz.underlying29 (.tmp rfl) At.const) rfl ?_
  refine J_open (t := 4) rfl (fun bn hbn => ?_)
  refine JN ?_
  refine J_cond (.tmp rfl) (fun h0 => ?_) (fun h0 => ?_)
  · try simp only [BS, ne_eq] at h0
    refine JSR ?_
    refine JQ (Q_assign At.const) rfl ?_
    refine JN ?_
    refine J_retc ?_
    refine J_then_ret ?_
    obtain rfl := hbn h0
    refine J_rowNil (el := 38) Oid ?_
    exact J_ret1 rfl (ResAt.tmp rfl) _ trivial (Split.take (by repeat first | exact R0 | apply RT) Split.nil) imp_refl
  try simp only [BS, ne_eq] at h0
  refine J_skip ?_
  refine J_then_normal ?_
  refine JSR ?_
  refine J_buildRow (α := (Arr 20 UInt8)) E38 Tryz.underlying29 [] [] rfl rfl trivial (Nat.le_of_ble_eq_true rfl) rfl (fun v5 => ?_)
  refine JM rfl rfl ?_
  refine J_append (α := (Arr 20 UInt8)) E38 Tryz.underlying29 (.tmp rfl) (.tmp rfl) (by repeat first | exact R0 | apply RT) (by first | omega | (simp; omega)) (by first | (simp only [maxLen]; omega) | (simp [maxLen]; omega)) rfl (fun v7 => ?_)
  refine JA rfl rfl ?_
  refine JN ?_
  refine J_retc ?_
  exact J_ret1 rfl (ResAt.tmp rfl) _ trivial (Split.take (by repeat first | exact R0 | apply RT) Split.nil) imp_refl
theorem clipO_c (l : List Oid) : FnP Tryz.prog 62 [Sl l] (Sl l) := by
  refine FnP_intro (by kernel_rfl) Tryz.func62 rfl Tryz.ntmps62 rfl (fun e => ?_)
  refine JSR ?_
  refine JQ (Q_assign At.const) rfl ?_
  refine JNSR ?_
  refine JM rfl rfl ?_
  refine JM rfl rfl ?_
  refine JQ (Q_len Tryz.underlying29 rfl (.tmp rfl)) rfl ?_
  refine JM rfl rfl ?_
  refine JQ (Q_len Tryz.underlying29 rfl (.tmp rfl)) rfl ?_
  refine JQ (Q_clip Tryz.underlying29 T38.size (.tmp rfl) trivial ⟨⟨_, (.tmp rfl)⟩, ⟨_, (.tmp rfl)⟩⟩ (by first | omega | simp <;> omega) (by first | omega | simp <;> omega) (by first | omega | simp <;> omega) (by first | omega | simp <;> omega)) rfl ?_
  refine JA rfl rfl ?_
  refine JN ?_
  refine J_retc ?_
  exact J_ret1 rfl (ResAt.tmp rfl) () trivial Split.nil (imp_eq (vsl_eq (by simp)))
theorem compact_c (v : Value) (l : List Oid) (hl : l.length ≤ 1152921504606846976) : Fn Tryz.prog 63 [Is v] [RowR 38 v l] (fun _ : Unit => True) (fun _ => Sl (dedN l l.length)) (fun _ => []) := by
  refine Fn_intro (by kernel_rfl) Tryz.func63 rfl Tryz.ntmps63 rfl (fun e => ?_)
  refine JSR ?_
  refine JQ (Q_assign At.const) rfl ?_
  refine JNSSR ?_
  refine JM rfl rfl ?_
  refine JQ (Q_lenR Tryz.underlying29 rfl (.tmp rfl) (by repeat first | exact R0 | apply RT)) rfl ?_
  refine JQ (Q_lss (.tmp rfl) At.int) rfl ?_
  refine JN ?_
  refine J_cond (.tmp rfl) (fun h0 => ?_) (fun h0 => ?_)
  · try simp only [BS, ne_eq] at h0
    refine JSR ?_
    refine J_freezeR (sl := 0) (by repeat first | exact R0 | apply RT) rfl ?_
    refine JM rfl rfl ?_
    refine JA rfl rfl ?_
    refine JN ?_
    refine J_retc ?_
    refine J_then_ret ?_
    exact J_ret1 rfl (ResAt.tmp rfl) () trivial Split.nil (imp_eq (vsl_eq (by rcases l with _ | ⟨x, _ | ⟨y, t⟩⟩; (rfl); (rfl); (simp at h0; omega))))
  try simp only [BS, ne_eq] at h0
  refine J_skip ?_
  refine J_then_normal ?_
  refine J_seq ?_
  refine JSR ?_
  refine JQ (Q_assign At.int) rfl ?_
  refine JN ?_
  refine J_block ?_
  refine J_loopU (ι := Nat) (fun k => 1 ≤ k ∧ k ≤ l.length ∧ dedN l k = l.take k) (fun k => [(3, VInt .i64 (k : Nat))]) [(0, _)] (fun k => [RowR 38 v l]) (fun k => l.length - k) (1) ⟨by omega, by omega, by show (if 0 = 0 ∨ _ then dedN l 0 ++ [gO l 0] else _) = _; rw [if_pos (.inl rfl), show (1 : Nat) = 0 + 1 from rfl, take_gO (show 0 < l.length by omega)]; rfl⟩ ⟨fe rfl (by first | rfl | exact vint_eq (by first | omega | simp <;> omega) | exact vsl_eq (by simp) | exact vstr_eq (by simp)), trivial⟩ ⟨rfl, trivial⟩ (Has.take (Repl.row (by repeat first | exact R0 | apply RT) (by first | rfl | simp)) Has.nil) (fun k hq => ?_)
  obtain ⟨hk1, hk2, hded⟩ := hq
  refine J_seq ?_
  refine JSR ?_
  refine JM rfl rfl ?_
  refine JM rfl rfl ?_
  refine JQ (Q_lenR Tryz.underlying29 rfl (.tmp rfl) (by repeat first | exact R0 | apply RT)) rfl ?_
  refine JQ (Q_lss (.tmp rfl) (.tmp rfl)) rfl ?_
  refine JN ?_
  refine J_cond (.tmp rfl) (fun h1 => ?_) (fun h1 => ?_)
  · try simp only [BS, ne_eq] at h1
    refine J_skip ?_
    refine J_then_normal ?_
    refine J_seq ?_
    refine J_block ?_
    refine J_seq ?_
    refine J_draw mix 10 [16, 17, 18, 19, 20, 21, 22, 23, 24, 25] [_, _, _, _, _, _, _, _, _, _] rfl rfl (by kernel_rfl) (by kernel_rfl) (by kernel_rfl) (by kernel_rfl) (by kernel_rfl) ⟨QS (Q_move (.tmp rfl)) rfl, QS (Q_move (.tmp rfl)) rfl, QS (Q_idxAddrR (α := (Arr 20 UInt8)) Tryz.underlying29 T38.size (.tmp rfl) (by repeat first | exact R0 | apply RT) (.tmp rfl) (by first | omega | simp <;> omega) (by first | omega | simp <;> omega)) rfl, QS (Q_loadR (α := (Arr 20 UInt8)) (.tmp rfl) (by repeat first | exact R0 | apply RT) T38 (by first | omega | simp <;> omega)) rfl, QS (Q_move (.tmp rfl)) rfl, QS (Q_move (.tmp rfl)) rfl, QS (Quiet.imp (Q_subi (.tmp rfl) At.int (by first | omega | simp <;> omega) (by first | omega | simp <;> omega)) (imp_eq (vint_eq (show _ = ((k - 1 : Nat) : Int) by first | omega | (simp; omega))))) rfl, QS (Q_idxAddrR (α := (Arr 20 UInt8)) Tryz.underlying29 T38.size (.tmp rfl) (by repeat first | exact R0 | apply RT) (.tmp rfl) (by first | omega | simp <;> omega) (by first | omega | simp <;> omega)) rfl, QS (Q_loadR (α := (Arr 20 UInt8)) (.tmp rfl) (by repeat first | exact R0 | apply RT) T38 (by first | omega | simp <;> omega)) rfl, QS (Q_eqlA Tryz.underlying38 Tryz.underlying5 T5.size (by kernel_rfl) (.tmp rfl) (.tmp rfl)) rfl, trivial⟩ ?_
    refine JN ?_
    refine J_cond (.tmp rfl) (fun h2 => ?_) (fun h2 => ?_)
    · try simp only [BS, ne_eq] at h2
      refine JSR ?_
      refine JM rfl rfl ?_
      refine JM rfl rfl ?_
      refine JQ (Q_tailR (α := (Arr 20 UInt8)) Tryz.underlying29 T38.size (.tmp rfl) (by repeat first | exact R0 | apply RT) (.tmp rfl) (by first | omega | simp <;> omega) (by first | omega | simp <;> omega)) rfl ?_
      refine JA rfl rfl ?_
      refine JNSSR ?_
      refine JQ (Q_assign At.int) rfl ?_
      refine JN ?_
      refine J_block ?_
      have heq : dedN l (k + 1) = dedN l k := by rw [dedN, if_neg]; rintro (h | h); (omega); (apply h; rw [gO_at (show k < l.length by omega), gO_at (show k - 1 < l.length by omega)]; exact h2)
      refine J_loopU (ι := Nat × Nat × List Oid) (fun q => match q with | (k2, k1, c) => 1 ≤ k2 ∧ k + k2 ≤ l.length ∧ k1 + 1 ≤ k + k2 ∧ c.length = l.length ∧ c.take k1 = dedN l (k + k2) ∧ k1 ≤ l.length ∧ ∀ i, k + k2 ≤ i + 1 → gO c i = gO l i) (fun q => match q with | (k2, k1, c) => [(5, VInt .i64 (k2 : Nat)), (3, VInt .i64 (k1 : Nat))]) [(0, _), (4, _)] (fun q => match q with | (k2, k1, c) => [RowR 38 v c]) (fun q => match q with | (k2, k1, c) => l.length - k2) ((1, k, l)) ⟨by omega, by omega, by omega, rfl, by rw [heq, hded], by omega, fun i _ => rfl⟩ ⟨fe rfl (by first | rfl | exact vint_eq (by first | omega | simp <;> omega) | exact vsl_eq (by simp) | exact vstr_eq (by simp)), fe rfl (by first | rfl | exact vint_eq (by first | omega | simp <;> omega) | exact vsl_eq (by simp) | exact vstr_eq (by simp)), trivial⟩ ⟨rfl, rfl, trivial⟩ (Has.take (Repl.row (by repeat first | exact R0 | apply RT) (by first | rfl | simp)) Has.nil) (fun q hq_1 => ?_)
      obtain ⟨k2, k1, c⟩ := q
      try dsimp only at hq_1
      obtain ⟨h3a, h3b, h3c, h3d, h3e, h3f, h3g⟩ := hq_1
      refine J_seq ?_
      refine JSR ?_
      refine JM rfl rfl ?_
      refine JM rfl rfl ?_
      refine JQ (Q_lenT (α := (Arr 20 UInt8)) (el := 38) Tryz.underlying29 rfl (.tmp rfl) (by repeat first | exact R0 | apply RT) (by first | omega | simp <;> omega)) rfl ?_
      refine JQ (Q_lss (.tmp rfl) (.tmp rfl)) rfl ?_
      refine JN ?_
      refine J_cond (.tmp rfl) (fun h3 => ?_) (fun h3 => ?_)
      · try simp only [BS, ne_eq] at h3
        refine J_skip ?_
        refine J_then_normal ?_
        refine J_seq ?_
        refine J_block ?_
        refine J_seq ?_
        refine J_draw mix 10 [35, 36, 37, 38, 39, 40, 41, 42, 43, 44] [_, _, _, _, _, _, _, _, _, _] rfl rfl (by kernel_rfl) (by kernel_rfl) (by kernel_rfl) (by kernel_rfl) (by kernel_rfl) ⟨QS (Q_move (.tmp rfl)) rfl, QS (Q_move (.tmp rfl)) rfl, QS (Q_idxAddrT (α := (Arr 20 UInt8)) Tryz.underlying29 T38.size (.tmp rfl) (by repeat first | exact R0 | apply RT) (.tmp rfl) (by first | omega | simp <;> omega) (by first | omega | simp <;> omega)) rfl, QS (Q_loadR (α := (Arr 20 UInt8)) (.tmp rfl) (by repeat first | exact R0 | apply RT) T38 (by first | omega | simp <;> omega)) rfl, QS (Q_move (.tmp rfl)) rfl, QS (Q_move (.tmp rfl)) rfl, QS (Quiet.imp (Q_subi (.tmp rfl) At.int (by first | omega | simp <;> omega) (by first | omega | simp <;> omega)) (imp_eq (vint_eq (show _ = ((k2 - 1 : Nat) : Int) by first | omega | (simp; omega))))) rfl, QS (Q_idxAddrT (α := (Arr 20 UInt8)) Tryz.underlying29 T38.size (.tmp rfl) (by repeat first | exact R0 | apply RT) (.tmp rfl) (by first | omega | simp <;> omega) (by first | omega | simp <;> omega)) rfl, QS (Q_loadR (α := (Arr 20 UInt8)) (.tmp rfl) (by repeat first | exact R0 | apply RT) T38 (by first | omega | simp <;> omega)) rfl, QS (Q_neqA Tryz.underlying38 Tryz.underlying5 T5.size (by kernel_rfl) (.tmp rfl) (.tmp rfl)) rfl, trivial⟩ ?_
        refine JN ?_
        refine J_cond (.tmp rfl) (fun h4 => ?_) (fun h4 => ?_)
        · try simp only [BS, ne_eq] at h4
          refine JSR ?_
          refine JM rfl rfl ?_
          refine JM rfl rfl ?_
          refine JM rfl rfl ?_
          refine JM rfl rfl ?_
          refine JQ (Q_idxAddrT (α := (Arr 20 UInt8)) Tryz.underlying29 T38.size (.tmp rfl) (by repeat first | exact R0 | apply RT) (.tmp rfl) (by first | omega | simp <;> omega) (by first | omega | simp <;> omega)) rfl ?_
          refine JQ (Q_loadR (α := (Arr 20 UInt8)) (.tmp rfl) (by repeat first | exact R0 | apply RT) T38 (by first | omega | simp <;> omega)) rfl ?_
          refine JQ (Q_idxAddrR (α := (Arr 20 UInt8)) Tryz.underlying29 T38.size (.tmp rfl) (by repeat first | exact R0 | apply RT) (.tmp rfl) (by first | omega | simp <;> omega) (by first | omega | simp <;> omega)) rfl ?_
          refine J_storeA (α := (Arr 20 UInt8)) (.tmp rfl) (.tmp rfl) rfl (by repeat first | exact R1 | apply RT) (by first | omega | simp <;> omega) T38.size ?_
          refine JNR ?_
          refine JM rfl rfl ?_
          refine JQ (Q_addi (.tmp rfl) At.int (by first | omega | simp <;> omega) (by first | omega | simp <;> omega)) rfl ?_
          refine JA rfl rfl ?_
          refine J_nil ?_
          refine J_blk_normal ?_
          refine J_then_normal ?_
          refine J_region ?_
          refine JM rfl rfl ?_
          refine JQ (Q_addi (.tmp rfl) At.int (by first | omega | simp <;> omega) (by first | omega | simp <;> omega)) rfl ?_
          refine JA rfl rfl ?_
          refine JN ?_
          have hne : gO l (k + k2) ≠ gO l (k + k2 - 1) := by rw [← h3g (k + k2) (by first | omega | simp <;> omega), ← h3g (k + k2 - 1) (by first | omega | simp <;> omega), gO_at (show k + k2 < c.length by omega), gO_at (show k + k2 - 1 < c.length by omega)]; intro he; apply h4; simpa [show k + (k2 - 1) = k + k2 - 1 by omega] using he
          have hk1l : k1 < c.length := (by first | omega | simp <;> omega)
          refine J_back ((k2 + 1, k1 + 1, c.set k1 (gO c (k + k2)))) ?_ ?_ ?_ ?_
          · exact ⟨⟨by omega, by omega, by omega, by rw [List.length_set]; exact h3d, by rw [take_gO (by rw [List.length_set]; exact hk1l), List.take_set_of_le (Nat.le_refl _), h3e, ← Nat.add_assoc, dedN, if_pos (.inr hne)]; congr 2; rw [gO_at (by rw [List.length_set]; exact hk1l), List.getElem_set_self, h3g _ (by first | omega | simp <;> omega)], by omega, fun i hi => by rw [← h3g i (by first | omega | simp <;> omega)]; simp only [gO, List.getD_eq_getElem?_getD]; rw [List.getElem?_set_ne (by first | omega | simp <;> omega)]⟩, by simp only; omega⟩
          · exact ⟨fe rfl (by first | rfl | exact vint_eq (by first | omega | simp <;> omega) | exact vsl_eq (by simp) | exact vstr_eq (by simp)), fe rfl (by first | rfl | exact vint_eq (by first | omega | simp <;> omega) | exact vsl_eq (by simp) | exact vstr_eq (by simp)), trivial⟩
          · exact ⟨rfl, rfl, trivial⟩
          · exact (Has.take (Repl.row (by repeat first | exact R0 | apply RT) (by simp [gO_at (show k + k2 < c.length by omega)])) Has.nil)
        try simp only [BS, ne_eq] at h4
        refine J_skip ?_
        refine J_blk_normal ?_
        refine J_then_normal ?_
        refine J_region ?_
        refine JM rfl rfl ?_
        refine JQ (Q_addi (.tmp rfl) At.int (by first | omega | simp <;> omega) (by first | omega | simp <;> omega)) rfl ?_
        refine JA rfl rfl ?_
        refine JN ?_
        have hne : gO l (k + k2) = gO l (k + k2 - 1) := by rw [← h3g (k + k2) (by first | omega | simp <;> omega), ← h3g (k + k2 - 1) (by first | omega | simp <;> omega), gO_at (show k + k2 < c.length by omega), gO_at (show k + k2 - 1 < c.length by omega)]; simpa [show k + (k2 - 1) = k + k2 - 1 by omega] using h4
        refine J_back ((k2 + 1, k1, c)) ?_ ?_ ?_ ?_
        · exact ⟨⟨by omega, by omega, by omega, h3d, by rw [h3e, ← Nat.add_assoc, dedN, if_neg (by rintro (q | q); (omega); exact q hne)], by omega, fun i hi => h3g i (by first | omega | simp <;> omega)⟩, by simp only; omega⟩
        · exact ⟨fe rfl (by first | rfl | exact vint_eq (by first | omega | simp <;> omega) | exact vsl_eq (by simp) | exact vstr_eq (by simp)), fe rfl (by first | rfl | exact vint_eq (by first | omega | simp <;> omega) | exact vsl_eq (by simp) | exact vstr_eq (by simp)), trivial⟩
        · exact ⟨rfl, rfl, trivial⟩
        · exact (Has.take (Repl.row (by repeat first | exact R0 | apply RT) (by first | rfl | simp)) Has.nil)
      try simp only [BS, ne_eq] at h3
      refine J_exit ?_
      refine J_then_exit ?_
      refine J_then_exit ?_
      refine J_blk_out ?_
      refine J_then_normal ?_
      refine J_seq ?_
      have hk2e : k + k2 = l.length := (by first | omega | simp <;> omega)
      have hk1l : k1 < c.length := (by first | omega | simp <;> omega)
      refine J_region ?_
      refine JM rfl rfl ?_
      refine JM rfl rfl ?_
      refine JQ (Q_tailR (α := (Arr 20 UInt8)) Tryz.underlying29 T38.size (.tmp rfl) (by repeat first | exact R0 | apply RT) (.tmp rfl) (by first | omega | simp <;> omega) (by first | omega | simp <;> omega)) rfl ?_
      refine J_clearT (α := (Arr 20 UInt8)) (el := 38) Tryz.underlying29 Z38 (.tmp rfl) (fun _ => (by repeat first | exact R1 | apply RT)) (by first | omega | simp <;> omega) (fun c_0 hcl_0 hct_0 => ?_)
      refine JNSR ?_
      refine J_freezeR (sl := 0) (by repeat first | exact R0 | apply RT) rfl ?_
      refine JM rfl rfl ?_
      refine JM rfl rfl ?_
      refine JQ (Q_slice Tryz.underlying29 T38.size (.tmp rfl) rfl ⟨_, (.tmp rfl)⟩ (by first | omega | simp <;> omega) (by first | omega | simp <;> omega) (by first | omega | simp <;> omega)) rfl ?_
      refine JA rfl rfl ?_
      refine JN ?_
      refine J_retc ?_
      refine J_blk_ret ?_
      refine J_then_ret ?_
      refine J_then_ret ?_
      refine J_blk_ret ?_
      refine J_then_ret ?_
      have hct := hct_0
      simp only [Int.toNat_natCast] at hct
      exact J_ret1 rfl (ResAt.tmp rfl) () trivial Split.nil (imp_eq (vsl_eq (by rw [← hk2e, ← h3e, ← hct]; simp)))
    try simp only [BS, ne_eq] at h2
    refine J_skip ?_
    refine J_blk_normal ?_
    refine J_then_normal ?_
    refine J_region ?_
    refine JM rfl rfl ?_
    refine JQ (Q_addi (.tmp rfl) At.int (by first | omega | simp <;> omega) (by first | omega | simp <;> omega)) rfl ?_
    refine JA rfl rfl ?_
    refine JN ?_
    refine J_back (k + 1) ?_ ?_ ?_ ?_
    · exact ⟨⟨by omega, by omega, by rw [take_gO (by first | omega | simp <;> omega), ← hded, dedN, if_pos (.inr (by rw [gO_at (show k < l.length by omega), gO_at (show k - 1 < l.length by omega)]; exact h2))]⟩, by omega⟩
    · exact ⟨fe rfl (by first | rfl | exact vint_eq (by first | omega | simp <;> omega) | exact vsl_eq (by simp) | exact vstr_eq (by simp)), trivial⟩
    · exact ⟨rfl, trivial⟩
    · exact (Has.take (Repl.row (by repeat first | exact R0 | apply RT) (by first | rfl | simp)) Has.nil)
  try simp only [BS, ne_eq] at h1
  refine J_exit ?_
  refine J_then_exit ?_
  refine J_then_exit ?_
  refine J_blk_out ?_
  refine J_then_normal ?_
  refine JSR ?_
  refine J_freezeR (sl := 0) (by repeat first | exact R0 | apply RT) rfl ?_
  refine JM rfl rfl ?_
  refine JA rfl rfl ?_
  refine JN ?_
  refine J_retc ?_
  exact J_ret1 rfl (ResAt.tmp rfl) () trivial Split.nil (imp_eq (vsl_eq (by have hke : k = l.length := (by first | omega | simp <;> omega); rw [← hke, hded, hke, List.take_length])))
end Go.Sep
namespace Go.Sep
open Go Go.Proofs
open Enc (V)
theorem dedN_mem (l : List Oid) (x : Oid) : ∀ j, j ≤ l.length → (x ∈ dedN l j ↔ x ∈ l.take j)
  | 0, _ => by simp [dedN]
  | j + 1, hj => by
    have ih := dedN_mem l x j (by omega)
    rw [take_gO (by omega), List.mem_append, List.mem_singleton, dedN]
    by_cases h : j = 0 ∨ gO l j ≠ gO l (j - 1)
    · rw [if_pos h, List.mem_append, List.mem_singleton, ih]
    · rw [if_neg h, ih]
      constructor
      · exact .inl
      · rintro (h2 | rfl)
        · exact h2
        · have hj0 : j ≠ 0 := fun e => h (.inl e)
          have he : gO l j = gO l (j - 1) := Classical.byContradiction fun e => h (.inr e)
          rw [he, gO_at (by omega)]
          exact List.mem_iff_getElem.2 ⟨j - 1, by simp; omega, by simp⟩
theorem sortL_mem (l : List Oid) (x : Oid) : x ∈ sortL l ↔ x ∈ l := (List.mergeSort_perm l _).mem_iff
theorem sortL_len (l : List Oid) : (sortL l).length = l.length := (List.mergeSort_perm l _).length_eq
theorem sortO_mem {l : List Oid} {x : Oid} : x ∈ sortO l ↔ x ∈ l := by unfold sortO; rw [dedN_mem _ _ _ (Nat.le_refl _), List.take_length, sortL_mem]
theorem sortO_len (l : List Oid) : (sortO l).length ≤ l.length := by unfold sortO; have := dedN_len (sortL l) (sortL l).length; rw [sortL_len] at this ⊢; exact this
theorem sortL_sorted (l : List Oid) : (sortL l).Pairwise (fun x y => ltO y x = false) := by
  have := List.pairwise_mergeSort (le := fun x y => !ltO y x) (fun a b c h1 h2 => by
    simp only [Bool.not_eq_true'] at h1 h2 ⊢
    exact swoO.ntrans _ _ _ h2 h1) (fun a b => by
    cases h1 : ltO b a with
    | false => simp
    | true => simp [swoO.asymm h1]) l
  exact this.imp fun h => by simpa using h
def Rising (l : List Oid) : Prop := l.Pairwise (fun x y => ltO x y = true)
theorem gO_le {l : List Oid} (h : l.Pairwise (fun x y => ltO y x = false)) {i j : Nat} (hij : i < j) (hj : j < l.length) : ltO (gO l j) (gO l i) = false := by
  rw [gO_at hj, gO_at (show i < l.length by omega)]
  exact List.pairwise_iff_getElem.1 h i j (by omega) hj hij
theorem dedN_rising {l : List Oid} (h : l.Pairwise (fun x y => ltO y x = false)) : ∀ j, j ≤ l.length → Rising (dedN l j) ∧ ∀ x ∈ dedN l j, ∃ i, i < j ∧ x = gO l i
  | 0, _ => ⟨List.Pairwise.nil, by simp [dedN]⟩
  | j + 1, hj => by
    obtain ⟨h1, h2⟩ := dedN_rising h j (by omega)
    rw [dedN]
    split
    · rename_i hc
      refine ⟨List.pairwise_append.2 ⟨h1, List.pairwise_singleton _ _, ?_⟩, ?_⟩
      · intro x hx y hy
        simp at hy; subst hy
        obtain ⟨i, hi, rfl⟩ := h2 x hx
        have hne : gO l j ≠ gO l (j - 1) := by rcases hc with hc | hc; (omega); exact hc
        have h3 := gO_le h (i := j - 1) (j := j) (by omega) (by omega)
        have h4 : ltO (gO l (j - 1)) (gO l j) = true := by
          cases hl : ltO (gO l (j - 1)) (gO l j) with
          | true => rfl
          | false => exact absurd (ltO_eq h3 hl) hne
        by_cases hij : i = j - 1
        · subst hij; exact h4
        · have h5 := gO_le h (i := i) (j := j - 1) (by omega) (by omega)
          cases hl : ltO (gO l i) (gO l j) with
          | true => rfl
          | false =>
            have := swoO.ntrans _ _ _ h5 hl
            rw [h4] at this; cases this
      · intro x hx
        rw [List.mem_append, List.mem_singleton] at hx
        rcases hx with hx | rfl
        · obtain ⟨i, hi, e⟩ := h2 x hx; exact ⟨i, by omega, e⟩
        · exact ⟨j, by omega, rfl⟩
    · exact ⟨h1, fun x hx => by obtain ⟨i, hi, e⟩ := h2 x hx; exact ⟨i, by omega, e⟩⟩
theorem sortO_rising (l : List Oid) : Rising (sortO l) := (dedN_rising (sortL_sorted l) _ (Nat.le_refl _)).1
theorem Rising.nodup {l : List Oid} (h : Rising l) : l.Nodup := h.imp fun hab e => by subst e; rw [swoO.irrefl] at hab; cases hab
theorem Rising.ext {l m : List Oid} (h1 : Rising l) (h2 : Rising m) (h : ∀ x, x ∈ l ↔ x ∈ m) : l = m :=
  ((List.perm_ext_iff_of_nodup h1.nodup h2.nodup).2 h).eq_of_pairwise (le := fun x y => ltO x y = true) (fun a b _ _ hab hba => by have := swoO.asymm hab; rw [hba] at this; cases this) h1 h2
theorem sortO_ext {l m : List Oid} (h : ∀ x, x ∈ l ↔ x ∈ m) : sortO l = sortO m := (sortO_rising l).ext (sortO_rising m) fun x => by rw [sortO_mem, sortO_mem, h]
theorem nodup_len_le {α : Type} [DecidableEq α] : ∀ {l m : List α}, l.Nodup → (∀ x, x ∈ l → x ∈ m) → l.length ≤ m.length
  | [], _, _, _ => Nat.zero_le _
  | x :: t, m, hl, h => by
    obtain ⟨h1, h2⟩ := List.nodup_cons.1 hl
    have hx : x ∈ m := h x (by simp)
    have := nodup_len_le (m := m.erase x) h2 (fun y hy => (List.mem_erase_of_ne (show y ≠ x from fun e => h1 (e ▸ hy))).2 (h y (by simp [hy])))
    have h3 := List.length_erase_of_mem hx
    have h4 := List.length_pos_of_mem hx
    simp; omega
theorem sortO_nodup_len {l : List Oid} (h : l.Nodup) : (sortO l).length = l.length := ((List.perm_ext_iff_of_nodup (sortO_rising l).nodup h).2 fun x => sortO_mem).length_eq
attribute [local irreducible] Quiet QStep J At FnX Fn FnP Repl Split Has Post Back GoZ
theorem sortO_c (l : List Oid) (hl : l.length ≤ 1099511627776) : FnP Tryz.prog 42 [Sl l] (Sl (sortO l)) := by
  have hsl := sortL_len l
  refine FnP_intro (by kernel_rfl) Tryz.func42 rfl Tryz.ntmps42 rfl (fun e => ?_)
  refine JSR ?_
  refine JQ (Q_assign At.const) rfl ?_
  refine JNSR ?_
  refine JM rfl rfl ?_
  refine J_call (cloneO_o _ (by first | omega | simp <;> omega)) ⟨(.tmp rfl), trivial⟩ Split.nil rfl (fun r5 hr5 => ?_)
  refine JA rfl rfl ?_
  refine JNSR ?_
  refine JM rfl rfl ?_
  refine JQ (Q_mkIface (by kernel_rfl) (.tmp rfl)) rfl ?_
  refine J_call (sortRow_c _ _ ?_) ⟨(.tmp rfl), trivial⟩ (Split.take (by repeat first | exact R0 | apply RT) Split.nil) rfl (fun r8 hr8 => ?_)
  · exact (by first | omega | simp <;> omega)
  refine JNSR ?_
  refine JM rfl rfl ?_
  refine J_call (compact_c _ _ ?_) ⟨(.tmp rfl), trivial⟩ (Split.take (by repeat first | exact R0 | apply RT) Split.nil) rfl (fun r10 hr10 => ?_)
  · exact (by first | omega | simp <;> omega)
  refine JQ (Q_call (clipO_c _) ⟨(.tmp rfl), trivial⟩) rfl ?_
  refine JA rfl rfl ?_
  refine JN ?_
  refine J_retc ?_
  exact J_ret1 rfl (ResAt.tmp rfl) () trivial Split.nil imp_refl
end Go.Sep
namespace Go.Sep
open Go Go.Proofs
open Enc (V)
abbrev CommitD := Oid × List Oid × Str × Str × Str
abbrev CommitX := Oid × Exact × Str × Str × Str
theorem TX103 : GoT Tryz.prog 103 CommitX := ⟨by kernel_rfl, by kernel_rfl⟩
theorem ZX103 : GoZ Tryz.prog 103 (GoZero.z : CommitX) := goZ _ (by kernel_rfl)
theorem TX29 : GoT Tryz.prog 29 Exact := ⟨by kernel_rfl, by kernel_rfl⟩
attribute [local irreducible] Quiet QStep J At FnX Fn FnP Repl Split Has Post Back GoZ
def commitWrong (c : CommitD) : Bool := decide (512 < ((c.2.1.length : Nat) : Int)) || decide ((((sortO c.2.1).length : Nat) : Int) ≠ ((c.2.1.length : Nat) : Int)) || !textB c.2.2.1.l 200 || !textB c.2.2.2.1.l 200
theorem commitWrong_c (c : CommitD) (h1' : c.2.2.1.l.length ≤ 4611686018427387904) (h2' : c.2.2.2.1.l.length ≤ 4611686018427387904) : FnP Tryz.prog 68 [V c] (VBool (commitWrong c)) := by
  refine FnP_intro (by kernel_rfl) Tryz.func68 rfl Tryz.ntmps68 rfl (fun e => ?_)
  refine JSR ?_
  refine J_boxI (α := ((Arr 20 UInt8) × (List (Arr 20 UInt8)) × Str × Str × Str)) (.tmp rfl) rfl ?_
  refine JQ (Q_assign At.bool) rfl ?_
  refine JN ?_
  refine J_seq ?_
  refine J_draw mix 27 [3, 4, 5, 6, 7, 8, 9, 10, 11, 12, 13, 14, 15, 16, 17, 18, 19, 20, 21, 22, 23, 24, 25, 26, 27, 28, 2] [_, _, _, _, _, _, _, _, _, _, _, _, _, _, _, _, _, _, _, _, _, _, _, _, _, _, _] rfl rfl (by kernel_rfl) (by kernel_rfl) (by kernel_rfl) (by kernel_rfl) (by kernel_rfl) ⟨QS (Q_fieldAddrI F103_1 (by decide) (Lens.snd (Lens.fst Lens.id) (by first | rfl | (simp only [Enc.size, Nat.zero_add, Nat.mul_one, Nat.add_zero]; omega))) (.tmp rfl)) rfl, QS (Q_load (.tmp rfl) T29) rfl, QS (Q_len Tryz.underlying29 rfl (.tmp rfl)) rfl, QS (Q_gtr (.tmp rfl) At.int) rfl, QS (Q_move (.tmp rfl)) rfl, QG rfl rfl rfl rfl rfl opt_bool (fun hg => (by have hg0 := hg; simp only [BS, ne_eq] at hg0; exact Q_fieldAddrI F103_1 (by decide) (Lens.snd (Lens.fst Lens.id) (by first | rfl | (simp only [Enc.size, Nat.zero_add, Nat.mul_one, Nat.add_zero]; omega))) (.tmp rfl))), QG rfl rfl rfl rfl rfl opt_bool (fun hg => (by have hg0 := hg; simp only [BS, ne_eq] at hg0; exact Q_load (At.opt rfl (by first | exact hg | (simp only [BS, ne_eq] at hg ⊢; first | exact hg | simp_all))) T29)), QG rfl rfl rfl rfl rfl opt_bool (fun hg => (by have hg0 := hg; simp only [BS, ne_eq] at hg0; exact Q_call (sortO_c _ (by first | omega | simp <;> omega)) ⟨(At.opt rfl (by first | exact hg | (simp only [BS, ne_eq] at hg ⊢; first | exact hg | simp_all))), trivial⟩)), QG rfl rfl rfl rfl rfl opt_bool (fun hg => (by have hg0 := hg; simp only [BS, ne_eq] at hg0; exact Q_len Tryz.underlying29 rfl (At.opt rfl (by first | exact hg | (simp only [BS, ne_eq] at hg ⊢; first | exact hg | simp_all))))), QG rfl rfl rfl rfl rfl opt_bool (fun hg => (by have hg0 := hg; simp only [BS, ne_eq] at hg0; exact Q_fieldAddrI F103_1 (by decide) (Lens.snd (Lens.fst Lens.id) (by first | rfl | (simp only [Enc.size, Nat.zero_add, Nat.mul_one, Nat.add_zero]; omega))) (.tmp rfl))), QG rfl rfl rfl rfl rfl opt_bool (fun hg => (by have hg0 := hg; simp only [BS, ne_eq] at hg0; exact Q_load (At.opt rfl (by first | exact hg | (simp only [BS, ne_eq] at hg ⊢; first | exact hg | simp_all))) T29)), QG rfl rfl rfl rfl rfl opt_bool (fun hg => (by have hg0 := hg; simp only [BS, ne_eq] at hg0; exact Q_len Tryz.underlying29 rfl (At.opt rfl (by first | exact hg | (simp only [BS, ne_eq] at hg ⊢; first | exact hg | simp_all))))), QG rfl rfl rfl rfl rfl opt_bool (fun hg => (by have hg0 := hg; simp only [BS, ne_eq] at hg0; exact Q_neq (At.opt rfl (by first | exact hg | (simp only [BS, ne_eq] at hg ⊢; first | exact hg | simp_all))) (At.opt rfl (by first | exact hg | (simp only [BS, ne_eq] at hg ⊢; first | exact hg | simp_all))))), QS (Q_orB (.tmp rfl) (fun hb => At.opt rfl (by simp only [BS, ne_eq] at hb ⊢; first | exact hb | simp_all))) rfl, QS (Q_move (.tmp rfl)) rfl, QG rfl rfl rfl rfl rfl opt_bool (fun hg => (by have hg0 := hg; simp only [BS, ne_eq] at hg0; exact Q_fieldAddrI F103_2 (by decide) (Lens.snd (Lens.snd (Lens.fst Lens.id) (by first | rfl | (simp only [Enc.size, Nat.zero_add, Nat.mul_one, Nat.add_zero]; omega))) (by first | rfl | (simp only [Enc.size, Nat.zero_add, Nat.mul_one, Nat.add_zero]; omega))) (.tmp rfl))), QG rfl rfl rfl rfl rfl opt_bool (fun hg => (by have hg0 := hg; simp only [BS, ne_eq] at hg0; exact Q_strOf (Q_load (At.opt rfl (by first | exact hg | (simp only [BS, ne_eq] at hg ⊢; first | exact hg | simp_all))) T9) (by (try dsimp only) <;> rfl))), QG rfl rfl rfl rfl rfl opt_bool (fun hg => (by have hg0 := hg; simp only [BS, ne_eq] at hg0; exact Q_call (text_c _ _ h1') ⟨(At.opt rfl (by first | exact hg | (simp only [BS, ne_eq] at hg ⊢; first | exact hg | simp_all))), At.int, trivial⟩)), QG rfl rfl rfl rfl rfl opt_bool (fun hg => (by have hg0 := hg; simp only [BS, ne_eq] at hg0; exact Q_not (At.opt rfl (by first | exact hg | (simp only [BS, ne_eq] at hg ⊢; first | exact hg | simp_all))))), QS (Q_orB (.tmp rfl) (fun hb => At.opt rfl (by simp only [BS, ne_eq] at hb ⊢; first | exact hb | simp_all))) rfl, QS (Q_move (.tmp rfl)) rfl, QG rfl rfl rfl rfl rfl opt_bool (fun hg => (by have hg0 := hg; simp only [BS, ne_eq] at hg0; exact Q_fieldAddrI F103_3 (by decide) (Lens.snd (Lens.snd (Lens.snd (Lens.fst Lens.id) (by first | rfl | (simp only [Enc.size, Nat.zero_add, Nat.mul_one, Nat.add_zero]; omega))) (by first | rfl | (simp only [Enc.size, Nat.zero_add, Nat.mul_one, Nat.add_zero]; omega))) (by first | rfl | (simp only [Enc.size, Nat.zero_add, Nat.mul_one, Nat.add_zero]; omega))) (.tmp rfl))), QG rfl rfl rfl rfl rfl opt_bool (fun hg => (by have hg0 := hg; simp only [BS, ne_eq] at hg0; exact Q_strOf (Q_load (At.opt rfl (by first | exact hg | (simp only [BS, ne_eq] at hg ⊢; first | exact hg | simp_all))) T9) (by (try dsimp only) <;> rfl))), QG rfl rfl rfl rfl rfl opt_bool (fun hg => (by have hg0 := hg; simp only [BS, ne_eq] at hg0; exact Q_call (text_c _ _ h2') ⟨(At.opt rfl (by first | exact hg | (simp only [BS, ne_eq] at hg ⊢; first | exact hg | simp_all))), At.int, trivial⟩)), QG rfl rfl rfl rfl rfl opt_bool (fun hg => (by have hg0 := hg; simp only [BS, ne_eq] at hg0; exact Q_not (At.opt rfl (by first | exact hg | (simp only [BS, ne_eq] at hg ⊢; first | exact hg | simp_all))))), QS (Q_orB (.tmp rfl) (fun hb => At.opt rfl (by simp only [BS, ne_eq] at hb ⊢; first | exact hb | simp_all))) rfl, QS (Q_assign (.tmp rfl)) rfl, trivial⟩ ?_
  refine JN ?_
  refine J_retc ?_
  exact J_ret1 rfl (ResAt.tmp rfl) () trivial Split.nil (imp_eq (vbool_eq (by simp [commitWrong])))
theorem cutB_lt {s : Bs} {c : UInt8} (h : (cutB s c).2.2 = true) : (cutB s c).2.1.length < s.length := by
  rcases s with _ | ⟨x, t⟩
  · simp [cutB, Lib.indexByte] at h
  · unfold cutB at h ⊢
    split
    · simp; omega
    · rename_i h2; rw [if_neg h2] at h; cases h
theorem nextB_lt {s f : Bs} (h : (nextB s f).2.1 = true) : (nextB s f).2.2.length < s.length := by
  unfold nextB at h ⊢
  split
  · rename_i hc; exact cutB_lt hc.1
  · rename_i hc; rw [if_neg hc] at h; cases h
def bTree : Bs := [116, 114, 101, 101, 32]
def bParent : Bs := [112, 97, 114, 101, 110, 116, 32]
def bAuthor : Bs := [97, 117, 116, 104, 111, 114, 32]
def bCommitter : Bs := [99, 111, 109, 109, 105, 116, 116, 101, 114, 32]
def parLoop : Nat → RS → List Oid → RS × List Oid
  | 0, st, ps => (st, ps)
  | n + 1, st, ps => if (nextB st.1 bParent).2.1 = true then parLoop n (idS ((nextB st.1 bParent).2.2, st.2) (nextB st.1 bParent).1) (ps ++ [(parseB (nextB st.1 bParent).1).1]) else (((nextB st.1 bParent).2.2, st.2), ps)
theorem parLoop_go {n : Nat} {st : RS} {ps : List Oid} (h : (nextB st.1 bParent).2.1 = true) : parLoop (n + 1) st ps = parLoop n (idS ((nextB st.1 bParent).2.2, st.2) (nextB st.1 bParent).1) (ps ++ [(parseB (nextB st.1 bParent).1).1]) := by rw [parLoop, if_pos h]
theorem parLoop_stop {n : Nat} {st : RS} {ps : List Oid} (h : (nextB st.1 bParent).2.1 = false) : parLoop (n + 1) st ps = (((nextB st.1 bParent).2.2, st.2), ps) := by rw [parLoop, if_neg (by rw [h]; simp)]
def cS0 (b : Bs) : RS := (b, false)
def cS1 (b : Bs) : RS := mustS (cS0 b) bTree
def cS2 (b : Bs) : RS := idS (cS1 b) (nextB (cS0 b).1 bTree).1
def cPar (b : Bs) : RS × List Oid := parLoop (b.length + 1) (cS2 b) []
theorem cPar_eq (b : Bs) : parLoop (b.length + 1) (cS2 b) [] = cPar b := rfl
def cS4 (b : Bs) : RS := mustS (cPar b).1 bAuthor
def cS5 (b : Bs) : RS := mustS (cS4 b) bCommitter
def cS6 (b : Bs) : RS := emptyS (cS5 b)
def commitT (b : Bs) : CommitD := ((parseB (nextB (cS0 b).1 bTree).1).1, (cPar b).2, ⟨(nextB (cPar b).1.1 bAuthor).1⟩, ⟨(nextB (cS4 b).1 bCommitter).1⟩, ⟨(cS6 b).1⟩)
def dcommitB (b : Bs) : CommitD × Int := if 16384 < b.length then (GoZero.z, 5) else if ((cS6 b).2 || commitWrong (commitT b)) = true then (GoZero.z, 2) else (commitT b, 0)
theorem dcommit_long {b : Bs} (h : 16384 < b.length) : dcommitB b = (GoZero.z, 5) := if_pos h
theorem dcommit_bad {b : Bs} (h : ¬ 16384 < b.length) (h2 : ((cS6 b).2 || commitWrong (commitT b)) = true) : dcommitB b = (GoZero.z, 2) := by unfold dcommitB; rw [if_neg h, if_pos h2]
theorem dcommit_ok {b : Bs} (h : ¬ 16384 < b.length) (h2 : ((cS6 b).2 || commitWrong (commitT b)) = false) : dcommitB b = (commitT b, 0) := by unfold dcommitB; rw [if_neg h, if_neg (by rw [h2]; simp)]
theorem commitX_D {a : Oid} {u : Value} {hu : u.oneCell' = true} {ps : List Oid} {s1 s2 s3 : Str} : ∀ (w : World) (T : Nat → Prop) (cs : List Value), (Enc.cp ((a, (⟨u, hu⟩ : Exact), s1, s2, s3) : CommitX)).rep w T cs → (Sl ps).rep w T u → (Enc.cp ((a, ps, s1, s2, s3) : CommitD)).rep w T cs := by
  rintro w T cs ⟨l1, l2, rfl, h1, l3, l4, rfl, h2, h3⟩ hs
  obtain rfl : l3 = [u] := h2
  exact ⟨l1, _, rfl, h1, [u], l4, rfl, ⟨u, rfl, hs⟩, h3⟩
end Go.Sep
namespace Go.Sep
open Go Go.Proofs
open Enc (V)
attribute [local irreducible] Quiet QStep J At FnX Fn FnP Repl Split Has Post Back GoZ
attribute [local irreducible] nextB parseB commitWrong cPar parLoop
set_option maxRecDepth 100000
theorem commit_lens {b : Bs} (h : b.length ≤ 16384) (hP : (cPar b).1.1.length ≤ b.length) : (commitT b).2.2.1.l.length ≤ 4611686018427387904 ∧ (commitT b).2.2.2.1.l.length ≤ 4611686018427387904 :=
  ⟨Nat.le_trans (nextB_len (cPar b).1.1 bAuthor).1 (Nat.le_trans hP (by omega)), Nat.le_trans (nextB_len (cS4 b).1 bCommitter).1 (Nat.le_trans (nextB_len (cPar b).1.1 bAuthor).2 (Nat.le_trans hP (by omega)))⟩
theorem dcommit_c (b : Bytes) : FnP Tryz.prog 44 [Sl b] (VTup [V (dcommitB b).1, VInt .i64 (dcommitB b).2]) := by
  refine FnP_intro (by kernel_rfl) Tryz.func44 rfl Tryz.ntmps44 rfl (fun e => ?_)
  refine J_lenLe (t := 0) rfl (fun hl0 => ?_)
  refine JSR ?_
  refine J_alloc Z103 rfl (fun b2 => ?_)
  refine JQ (Q_assign At.int) rfl ?_
  refine JNSSR ?_
  refine JM rfl rfl ?_
  refine JQ (Q_len Tryz.underlying23 rfl (.tmp rfl)) rfl ?_
  refine JQ (Q_gtr (.tmp rfl) At.int) rfl ?_
  refine JN ?_
  refine J_cond (.tmp rfl) (fun h0 => ?_) (fun h0 => ?_)
  · try simp only [BS, ne_eq] at h0
    refine JSR ?_
    refine JQ (Q_build Z103 T103.agg (by kernel_rfl) BP.nil) rfl ?_
    refine J_store (.tmp rfl) (.tmp rfl) (by (try dsimp only) <;> rfl) (by repeat first | exact R1 | apply RT) Lens.id T103.size ?_
    refine JQ (Q_assign At.int) rfl ?_
    refine JN ?_
    refine J_retc ?_
    refine J_then_ret ?_
    exact J_ret2 rfl (ResAt.box rfl (by repeat first | exact R0 | apply RT) T103) (ResAt.tmp rfl) () trivial Split.nil (imp_eq (by rw [dcommit_long (by first | omega | simp <;> omega)]))
  try simp only [BS, ne_eq] at h0
  have hl2 : (cS2 b).1.length ≤ b.length := (nextB_len (cS0 b).1 bTree).2
  refine J_skip ?_
  refine J_then_normal ?_
  refine JSR ?_
  refine JM rfl rfl ?_
  refine JQ (Q_toStr Tryz.underlying23 Tryz.underlying5 Tryz.underlying9 (.tmp rfl)) rfl ?_
  refine JQ (Q_build Z128 T128.agg (by kernel_rfl) (BP.cons PL128_0 (Lens.fst Lens.id) (At.toStr (.tmp rfl)) BP.nil)) rfl ?_
  refine J_box (α := (Str × Bool)) (.tmp rfl) rfl (fun b15 => ?_)
  refine J_rowNil (el := 38) Oid ?_
  refine JA rfl rfl ?_
  refine JNSR ?_
  refine JM rfl rfl ?_
  refine JM rfl rfl ?_
  refine J_call (must_c _ _ _ ?_ ?_) ⟨(.tmp rfl), At.str, trivial⟩ (Split.take (by repeat first | exact R0 | apply RT) Split.nil) rfl (fun r18 hr18 => ?_)
  · repeat (first | omega | refine Nat.le_trans (nextB_len _ _).2 ?_ | refine Nat.le_trans (nextB_len _ _).1 ?_)
  · exact (by first | omega | simp <;> omega)
  refine J_call (id_c _ _ _ ?_) ⟨(.tmp rfl), (.tmp rfl), trivial⟩ (Split.take (by repeat first | exact R0 | apply RT) Split.nil) rfl (fun r19 hr19 => ?_)
  · repeat (first | omega | refine Nat.le_trans (nextB_len _ _).2 ?_ | refine Nat.le_trans (nextB_len _ _).1 ?_)
  refine JQ (Q_build ZX103 TX103.agg (by kernel_rfl) (BP.cons PL103_0 (Lens.fst Lens.id) (.tmp rfl) BP.nil)) rfl ?_
  refine J_alloc ZX103 rfl (fun b5 => ?_)
  refine J_store (.tmp rfl) (.tmp rfl) (by (try dsimp only) <;> rfl) (by repeat first | exact R1 | apply RT) Lens.id T103.size ?_
  refine JNSSR ?_
  refine JM rfl rfl ?_
  refine J_call (next_c _ _ _ ?_ ?_) ⟨(.tmp rfl), At.str, trivial⟩ (Split.take (by repeat first | exact R0 | apply RT) Split.nil) rfl (fun r23 hr23 => ?_)
  · repeat (first | omega | refine Nat.le_trans (nextB_len _ _).2 ?_ | refine Nat.le_trans (nextB_len _ _).1 ?_)
  · exact (by first | omega | simp <;> omega)
  refine JM rfl rfl ?_
  refine JQ (Q_extract (.tmp rfl) rfl) rfl ?_
  refine JQ (Q_extract (.tmp rfl) rfl) rfl ?_
  refine JA rfl rfl ?_
  refine JA rfl rfl ?_
  refine JN ?_
  refine J_block ?_
  refine J_loopU (ι := Nat × RS × List Oid × Exact) (fun q => match q with | (m, st, ps, x) => st.1.length < m ∧ ps.length + st.1.length ≤ b.length ∧ parLoop m st ps = cPar b) (fun q => match q with | (m, st, ps, x) => [(6, VStr (nextB st.1 bParent).1), (7, VBool (nextB st.1 bParent).2.1)]) [(2, _), (3, _), (4, _), (5, _)] (fun q => match q with | (m, st, ps, x) => [RowR 38 x.v ps, BoxR 103 b5 (((parseB (nextB (cS0 b).1 bTree).1).1, x, ⟨[]⟩, ⟨[]⟩, ⟨[]⟩) : CommitX), BoxR 128 b15 ((⟨(nextB st.1 bParent).2.2⟩, st.2) : Lns), BoxR 103 b2 (GoZero.z : CommitD)]) (fun q => match q with | (m, st, ps, x) => st.1.length) ((b.length + 1, cS2 b, [], ⟨.slice none 0 0, rfl⟩)) ⟨by omega, by simp; omega, cPar_eq b⟩ ⟨fe rfl (by first | rfl | exact vint_eq (by first | omega | simp <;> omega) | exact vsl_eq (by simp) | exact vstr_eq (by simp)), fe rfl (by first | rfl | exact vint_eq (by first | omega | simp <;> omega) | exact vsl_eq (by simp) | exact vstr_eq (by simp)), trivial⟩ ⟨rfl, rfl, rfl, rfl, trivial⟩ (Has.take (Repl.row (by repeat first | exact R0 | apply RT) (by first | rfl | simp)) (Has.take (Repl.box (by repeat first | exact R0 | apply RT) (by first | rfl | simp)) (Has.take (Repl.box (by repeat first | exact R0 | apply RT) (by first | rfl | simp)) (Has.take (Repl.box (by repeat first | exact R0 | apply RT) (by first | rfl | simp)) Has.nil)))) (fun q hq => ?_)
  obtain ⟨m, st, ps, x⟩ := q
  try dsimp only at hq
  obtain ⟨hm, hps, hpl⟩ := hq
  obtain ⟨m, rfl⟩ : ∃ m2, m = m2 + 1 := ⟨m - 1, by omega⟩
  have hn1 := nextB_len st.1 bParent
  refine J_seq ?_
  refine JSR ?_
  refine JM rfl rfl ?_
  refine JN ?_
  refine J_cond (.tmp rfl) (fun h1 => ?_) (fun h1 => ?_)
  · try simp only [BS, ne_eq] at h1
    refine J_skip ?_
    refine J_then_normal ?_
    refine J_seq ?_
    refine J_block ?_
    refine J_drawF (S1 := [BoxR 128 b15 ((⟨(nextB st.1 bParent).2.2⟩, st.2 || decide ((parseB (nextB st.1 bParent).1).2 ≠ 0)) : Lns), RowR 38 x.v ps, BoxR 103 b5 (((parseB (nextB (cS0 b).1 bTree).1).1, x, ⟨[]⟩, ⟨[]⟩, ⟨[]⟩) : CommitX), BoxR 103 b2 (GoZero.z : CommitD)]) (XE := V (parseB (nextB st.1 bParent).1).1) mix 6 4 [32, 33, 34, 35, 36, 37] [_, _, _, _, V (parseB (nextB st.1 bParent).1).1, _] rfl rfl rfl (by kernel_rfl) (by kernel_rfl) (by kernel_rfl) (by kernel_rfl) (by kernel_rfl) (by intro o ho; obtain rfl := Option.some.inj ho; rfl) rfl [false, false, false, false, true, true] [false, false, true, true, true, false] (by kernel_rfl) (by kernel_rfl) ⟨QS (Q_fieldAddrP F103_1 (by decide) (.tmp rfl)) rfl, QS (Q_exactOf (Q_loadB (.tmp rfl) (by repeat first | exact R0 | apply RT) (Lens.snd (Lens.fst Lens.id) (by first | rfl | (simp only [Enc.size, Nat.zero_add, Nat.mul_one, Nat.add_zero]; omega))) TX29 (by (try dsimp only) <;> rfl))) rfl, QS (Q_move (.tmp rfl)) rfl, QS (Q_move (.tmp rfl)) rfl, trivial⟩ (TT_split (Sc := [BoxR 128 b15 ((⟨(nextB st.1 bParent).2.2⟩, st.2) : Lns)]) (S2 := [BoxR 128 b15 ((⟨(nextB st.1 bParent).2.2⟩, st.2 || decide ((parseB (nextB st.1 bParent).1).2 ≠ 0)) : Lns)]) (Split.take (by repeat first | exact R0 | apply RT) Split.nil) rfl) ⟨QS (Q_fieldAddrP F103_1 (by decide) (.tmp rfl)) rfl, QS (Q_exactOf (Q_loadB (.tmp rfl) (by repeat first | exact R0 | apply RT) (Lens.snd (Lens.fst Lens.id) (by first | rfl | (simp only [Enc.size, Nat.zero_add, Nat.mul_one, Nat.add_zero]; omega))) TX29 (by (try dsimp only) <;> rfl))) rfl, QS (Q_buildSlice (α := (Arr 20 UInt8)) E38 Tryz.underlying29 [.tmp 36] [_] rfl rfl ⟨(.tmp rfl), trivial⟩ (Nat.le_of_ble_eq_true rfl)) rfl, trivial⟩ (fun o ho => ?_) ?_
    · obtain rfl := Option.some.inj ho
      exact E_call (id_c (nextB st.1 bParent).2.2 (nextB st.1 bParent).1 st.2 (by first | omega | simp <;> omega)) ⟨(.tmp rfl), (.tmp rfl), trivial⟩ (Split.take (by repeat first | exact R0 | apply RT) Split.nil) rfl
    refine J_append (α := (Arr 20 UInt8)) E38 Tryz.underlying29 (.tmp rfl) (.tmp rfl) (by repeat first | exact R0 | apply RT) (by first | omega | (simp; omega)) (by first | (simp only [maxLen]; omega) | (simp [maxLen]; omega)) rfl (fun v38 => ?_)
    refine JQ (Q_fieldAddrP F103_1 (by decide) (.tmp rfl)) rfl ?_
    refine J_one (by repeat first | exact R0 | apply RT) (fun ho38 => ?_)
    refine J_store (.tmp rfl) (At.exact (h := ho38) (.tmp rfl)) (by (try dsimp only) <;> rfl) (by repeat first | exact R1 | apply RT) (Lens.snd (Lens.fst Lens.id) (by first | rfl | (simp only [Enc.size, Nat.zero_add, Nat.mul_one, Nat.add_zero]; omega))) T29.size ?_
    refine J_nil ?_
    refine J_blk_normal ?_
    refine J_then_normal ?_
    refine J_region ?_
    refine JM rfl rfl ?_
    refine J_call (next_c _ _ _ ?_ ?_) ⟨(.tmp rfl), At.str, trivial⟩ (Split.take (by repeat first | exact R0 | apply RT) Split.nil) rfl (fun r29 hr29 => ?_)
    · repeat (first | omega | refine Nat.le_trans (nextB_len _ _).2 ?_ | refine Nat.le_trans (nextB_len _ _).1 ?_)
    · exact (by first | omega | simp <;> omega)
    refine JM rfl rfl ?_
    refine JQ (Q_extract (.tmp rfl) rfl) rfl ?_
    refine JQ (Q_extract (.tmp rfl) rfl) rfl ?_
    refine JA rfl rfl ?_
    refine JA rfl rfl ?_
    refine JN ?_
    have hlt := nextB_lt h1
    refine J_back ((m, idS ((nextB st.1 bParent).2.2, st.2) (nextB st.1 bParent).1, ps ++ [(parseB (nextB st.1 bParent).1).1], ⟨v38, ho38⟩)) ?_ ?_ ?_ ?_
    · exact ⟨⟨by show (nextB st.1 bParent).2.2.length < m; omega, by show (ps ++ [_]).length + (nextB st.1 bParent).2.2.length ≤ b.length; simp; omega, by rw [← hpl, parLoop_go h1]⟩, by show (nextB st.1 bParent).2.2.length < st.1.length; omega⟩
    · exact ⟨fe rfl (by first | rfl | exact vint_eq (by first | omega | simp <;> omega) | exact vsl_eq (by simp) | exact vstr_eq (by simp)), fe rfl (by first | rfl | exact vint_eq (by first | omega | simp <;> omega) | exact vsl_eq (by simp) | exact vstr_eq (by simp)), trivial⟩
    · exact ⟨rfl, rfl, rfl, rfl, trivial⟩
    · exact (Has.take (Repl.row (by repeat first | exact R0 | apply RT) (by first | rfl | simp)) (Has.take (Repl.box (by repeat first | exact R0 | apply RT) (by first | rfl | simp)) (Has.take (Repl.box (by repeat first | exact R0 | apply RT) (by first | rfl | simp)) (Has.take (Repl.box (by repeat first | exact R0 | apply RT) (by first | rfl | simp)) Has.nil))))
  try simp only [BS, ne_eq] at h1
  refine J_exit ?_
  refine J_then_exit ?_
  refine J_then_exit ?_
  refine J_blk_out ?_
  refine J_then_normal ?_
  refine J_seq ?_
  have hPar : cPar b = (((nextB st.1 bParent).2.2, st.2), ps) := by rw [← hpl, parLoop_stop h1]
  have hP1 : (cPar b).1.1.length ≤ b.length := by rw [hPar]; show (nextB st.1 bParent).2.2.length ≤ b.length; omega
  have hcl := commit_lens (by first | omega | simp <;> omega) hP1
  have e3 : ps = (cPar b).2 := by rw [hPar]
  subst e3
  dsimp only
  rw [show (nextB st.1 bParent).2.2 = (cPar b).1.1 from by rw [hPar], show st.2 = (cPar b).1.2 from by rw [hPar]]
  clear hPar hpl
  refine J_freezeBR (y' := (((parseB (nextB (cS0 b).1 bTree).1).1, (cPar b).2, ⟨[]⟩, ⟨[]⟩, ⟨[]⟩) : CommitD)) (by repeat first | exact R0 | apply RT) (by repeat first | exact R1 | apply RT) commitX_D ?_
  refine J_region ?_
  refine JM rfl rfl ?_
  refine J_call (must_c _ _ _ ?_ ?_) ⟨(.tmp rfl), At.str, trivial⟩ (Split.take (by repeat first | exact R0 | apply RT) Split.nil) rfl (fun r41 hr41 => ?_)
  · repeat (first | omega | refine Nat.le_trans (nextB_len _ _).2 ?_ | refine Nat.le_trans (nextB_len _ _).1 ?_)
  · exact (by first | omega | simp <;> omega)
  refine JM rfl rfl ?_
  refine J_call (must_c _ _ _ ?_ ?_) ⟨(.tmp rfl), At.str, trivial⟩ (Split.take (by repeat first | exact R0 | apply RT) Split.nil) rfl (fun r43 hr43 => ?_)
  · repeat (first | omega | refine Nat.le_trans (nextB_len _ _).2 ?_ | refine Nat.le_trans (nextB_len _ _).1 ?_)
  · exact (by first | omega | simp <;> omega)
  refine JQ (Q_fieldAddrP F103_2 (by decide) (.tmp rfl)) rfl ?_
  refine J_store (.tmp rfl) (At.toStr (.tmp rfl)) (by (try dsimp only) <;> rfl) (by repeat first | exact R1 | apply RT) (Lens.snd (Lens.snd (Lens.fst Lens.id) (by first | rfl | (simp only [Enc.size, Nat.zero_add, Nat.mul_one, Nat.add_zero]; omega))) (by first | rfl | (simp only [Enc.size, Nat.zero_add, Nat.mul_one, Nat.add_zero]; omega))) T9.size ?_
  refine JQ (Q_fieldAddrP F103_3 (by decide) (.tmp rfl)) rfl ?_
  refine J_store (.tmp rfl) (At.toStr (.tmp rfl)) (by (try dsimp only) <;> rfl) (by repeat first | exact R1 | apply RT) (Lens.snd (Lens.snd (Lens.snd (Lens.fst Lens.id) (by first | rfl | (simp only [Enc.size, Nat.zero_add, Nat.mul_one, Nat.add_zero]; omega))) (by first | rfl | (simp only [Enc.size, Nat.zero_add, Nat.mul_one, Nat.add_zero]; omega))) (by first | rfl | (simp only [Enc.size, Nat.zero_add, Nat.mul_one, Nat.add_zero]; omega))) T9.size ?_
  refine JNSR ?_
  refine JM rfl rfl ?_
  refine J_call (empty_c _ _ ?_) ⟨(.tmp rfl), trivial⟩ (Split.take (by repeat first | exact R0 | apply RT) Split.nil) rfl (fun r47 hr47 => ?_)
  · repeat (first | omega | refine Nat.le_trans (nextB_len _ _).2 ?_ | refine Nat.le_trans (nextB_len _ _).1 ?_)
  refine JNSR ?_
  refine JM rfl rfl ?_
  refine JQ (Q_nilChkP (.tmp rfl)) rfl ?_
  refine JQ (Q_fieldAddrP F128_0 (by decide) (.tmp rfl)) rfl ?_
  refine JQ (Q_strOf (Q_loadB (.tmp rfl) (by repeat first | exact R0 | apply RT) (Lens.fst Lens.id) T9 (by (try dsimp only) <;> rfl)) (by (try dsimp only) <;> rfl)) rfl ?_
  refine JQ (Q_fieldAddrP F103_4 (by decide) (.tmp rfl)) rfl ?_
  refine J_store (.tmp rfl) (At.toStr (.tmp rfl)) (by (try dsimp only) <;> rfl) (by repeat first | exact R1 | apply RT) (Lens.snd (Lens.snd (Lens.snd (Lens.snd Lens.id (by first | rfl | (simp only [Enc.size, Nat.zero_add, Nat.mul_one, Nat.add_zero]; omega))) (by first | rfl | (simp only [Enc.size, Nat.zero_add, Nat.mul_one, Nat.add_zero]; omega))) (by first | rfl | (simp only [Enc.size, Nat.zero_add, Nat.mul_one, Nat.add_zero]; omega))) (by first | rfl | (simp only [Enc.size, Nat.zero_add, Nat.mul_one, Nat.add_zero]; omega))) T9.size ?_
  refine JNSSR ?_
  refine JM rfl rfl ?_
  refine JQ (Q_nilChkP (.tmp rfl)) rfl ?_
  refine JQ (Q_fieldAddrP F128_1 (by decide) (.tmp rfl)) rfl ?_
  refine JQ (Q_loadB (.tmp rfl) (by repeat first | exact R0 | apply RT) (Lens.snd Lens.id (by first | rfl | (simp only [Enc.size, Nat.zero_add, Nat.mul_one, Nat.add_zero]; omega))) T4 (by (try dsimp only) <;> rfl)) rfl ?_
  refine JM rfl rfl ?_
  refine J_qstep (QG rfl rfl rfl rfl rfl opt_bool (fun hg => (by have hg0 := hg; simp only [BS, ne_eq] at hg0; exact Q_loadB (.tmp rfl) (by repeat first | exact R0 | apply RT) Lens.id T103 (by (try dsimp only) <;> rfl)))) rfl rfl ?_
  refine J_qstep (QG rfl rfl rfl rfl rfl opt_bool (fun hg => (by have hg0 := hg; simp only [BS, ne_eq] at hg0; exact Q_call (commitWrong_c (commitT b) hcl.1 hcl.2) ⟨(At.opt rfl (by first | exact hg | (simp only [BS, ne_eq] at hg ⊢; first | exact hg | simp_all))), trivial⟩))) rfl rfl ?_
  refine JQ (Q_orB (.tmp rfl) (fun hb => At.opt rfl (by simp only [BS, ne_eq] at hb ⊢; first | exact hb | simp_all))) rfl ?_
  refine JN ?_
  refine J_cond (.tmp rfl) (fun h2 => ?_) (fun h2 => ?_)
  · skip
    refine JSR ?_
    refine JQ (Q_build Z103 T103.agg (by kernel_rfl) BP.nil) rfl ?_
    refine J_store (.tmp rfl) (.tmp rfl) (by (try dsimp only) <;> rfl) (by repeat first | exact R1 | apply RT) Lens.id T103.size ?_
    refine JQ (Q_assign At.int) rfl ?_
    refine JN ?_
    refine J_retc ?_
    refine J_then_ret ?_
    exact J_ret2 rfl (ResAt.box rfl (by repeat first | exact R0 | apply RT) T103) (ResAt.tmp rfl) () trivial Split.nil (imp_eq (by rw [dcommit_bad (by first | omega | simp <;> omega) h2]))
  skip
  refine J_skip ?_
  refine J_then_normal ?_
  refine JSR ?_
  refine JQ (Q_loadB (.tmp rfl) (by repeat first | exact R0 | apply RT) Lens.id T103 (by (try dsimp only) <;> rfl)) rfl ?_
  refine J_store (.tmp rfl) (.tmp rfl) (by (try dsimp only) <;> rfl) (by repeat first | exact R1 | apply RT) Lens.id T103.size ?_
  refine JQ (Q_assign At.int) rfl ?_
  refine JN ?_
  refine J_retc ?_
  exact J_ret2 rfl (ResAt.box rfl (by repeat first | exact R0 | apply RT) T103) (ResAt.tmp rfl) () trivial Split.nil (imp_eq (by rw [dcommit_ok (by first | omega | simp <;> omega) h2]; rfl))
end Go.Sep
namespace Go.Sep
open Go Go.Proofs
open Enc (V)
def checkB (k : Int) (b : Bs) : Int := if wordB k = [] then 1 else if 16384 < b.length then 5 else if k = 2 then (dtreeB b).2 else if k = 1 then (dcommitB b).2 else if k = 4 then (dtagB b).2 else 0
def rawEdges (k : Int) (b : Bs) : List Oid := if k = 2 then edgesT (dtreeB b).1 else if k = 1 then (dcommitB b).1.1 :: (dcommitB b).1.2.1 else if k = 4 then [(dtagB b).1.1] else []
def edgesB (k : Int) (b : Bs) : List Oid := sortO (rawEdges k b)
theorem parLoop_len : ∀ (n : Nat) (st : RS) (ps : List Oid), (parLoop n st ps).2.length ≤ ps.length + st.1.length
  | 0, st, ps => by simp [parLoop]
  | n + 1, st, ps => by
    cases h : (nextB st.1 bParent).2.1 with
    | false => rw [parLoop_stop h]; simp
    | true =>
      rw [parLoop_go h]
      have h1 := nextB_lt h
      have h2 := parLoop_len n (idS ((nextB st.1 bParent).2.2, st.2) (nextB st.1 bParent).1) (ps ++ [(parseB (nextB st.1 bParent).1).1])
      have h3 : (idS ((nextB st.1 bParent).2.2, st.2) (nextB st.1 bParent).1).1 = (nextB st.1 bParent).2.2 := rfl
      rw [h3] at h2
      simp at h2
      omega
theorem dcommitB_len (b : Bs) : (dcommitB b).1.2.1.length ≤ 16384 := by
  by_cases h : 16384 < b.length
  · rw [dcommit_long h]; simp [GoZero.z]
  · cases h2 : ((cS6 b).2 || commitWrong (commitT b)) with
    | true => rw [dcommit_bad h h2]; simp [GoZero.z]
    | false =>
      rw [dcommit_ok h h2]
      have h3 := parLoop_len (b.length + 1) (cS2 b) []
      have h4 : (cS2 b).1.length ≤ b.length := (nextB_len (cS0 b).1 bTree).2
      show (cPar b).2.length ≤ 16384
      rw [← cPar_eq]
      simp at h3
      omega
attribute [local irreducible] Quiet QStep J At FnX Fn FnP Repl Split Has Post Back GoZ
attribute [local irreducible] dcommitB dtreeB dtagB sortO edgesT wordB
theorem commitEdges_c (b : Bytes) : FnP Tryz.prog 111 [Sl b] (VTup [Sl ((dcommitB b).1.1 :: (dcommitB b).1.2.1), VInt .i64 (dcommitB b).2]) := by
  have hl := dcommitB_len b
  refine FnP_intro (by kernel_rfl) Tryz.func111 rfl Tryz.ntmps111 rfl (fun e => ?_)
  refine JSR ?_
  refine JQ (Q_assign At.const) rfl ?_
  refine JQ (Q_assign At.int) rfl ?_
  refine JNSR ?_
  refine JM rfl rfl ?_
  refine JQ (Q_call (dcommit_c _) ⟨(.tmp rfl), trivial⟩) rfl ?_
  refine JM rfl rfl ?_
  refine JQ (Q_extract (.tmp rfl) rfl) rfl ?_
  refine JQ (Q_extract (.tmp rfl) rfl) rfl ?_
  refine J_alloc Z103 rfl (fun b4 => ?_)
  refine J_store (.tmp rfl) (.tmp rfl) (by (try dsimp only) <;> rfl) (by repeat first | exact R1 | apply RT) Lens.id T103.size ?_
  refine J_freezeB (sl := 4) (by repeat first | exact R0 | apply RT) rfl ?_
  refine JA rfl rfl ?_
  refine JNSR ?_
  refine JQ (Q_fieldAddrI F103_0 (by decide) (Lens.fst Lens.id) (.tmp rfl)) rfl ?_
  refine JQ (Q_load (.tmp rfl) T38) rfl ?_
  refine J_buildRow (α := (Arr 20 UInt8)) E38 Tryz.underlying29 [.tmp 12] [_] rfl rfl ⟨(.tmp rfl), trivial⟩ (Nat.le_of_ble_eq_true rfl) rfl (fun v13 => ?_)
  refine JQ (Q_fieldAddrI F103_1 (by decide) (Lens.snd (Lens.fst Lens.id) (by first | rfl | (simp only [Enc.size, Nat.zero_add, Nat.mul_one, Nat.add_zero]; omega))) (.tmp rfl)) rfl ?_
  refine JQ (Q_load (.tmp rfl) T29) rfl ?_
  refine J_append (α := (Arr 20 UInt8)) E38 Tryz.underlying29 (.tmp rfl) (.tmp rfl) (by repeat first | exact R0 | apply RT) (by first | omega | (simp; omega)) (by first | (simp only [maxLen]; omega) | (simp [maxLen]; omega)) rfl (fun v16 => ?_)
  refine J_freezeR (sl := 16) (by repeat first | exact R0 | apply RT) rfl ?_
  refine JM rfl rfl ?_
  refine JA rfl rfl ?_
  refine JA rfl rfl ?_
  refine JN ?_
  refine J_retc ?_
  exact J_ret2 rfl (ResAt.tmp rfl) (ResAt.tmp rfl) () trivial Split.nil imp_refl
theorem check_c (k : Int) (b : Bytes) : FnP Tryz.prog 50 [VInt .i64 k, Sl b] (VInt .i64 (checkB k b)) := by
  refine FnP_intro (by kernel_rfl) Tryz.func50 rfl Tryz.ntmps50 rfl (fun e => ?_)
  refine JSR ?_
  refine JQ (Q_assign At.int) rfl ?_
  refine JN ?_
  refine J_seq ?_
  refine J_block ?_
  refine JSR ?_
  refine JM rfl rfl ?_
  refine JQ (Q_call (word_c _) ⟨(.tmp rfl), trivial⟩) rfl ?_
  refine JQ (Q_eqls (.tmp rfl) At.str) rfl ?_
  refine JA rfl rfl ?_
  refine JN ?_
  refine J_cond (.tmp rfl) (fun h0 => ?_) (fun h0 => ?_)
  · try simp only [BS, ne_eq] at h0
    refine JSR ?_
    refine JQ (Q_assign At.int) rfl ?_
    refine JN ?_
    refine J_retc ?_
    refine J_blk_ret ?_
    refine J_then_ret ?_
    exact J_ret1 rfl (ResAt.tmp rfl) () trivial Split.nil (imp_eq (vint_eq (by unfold checkB; rw [if_pos h0])))
  try simp only [BS, ne_eq] at h0
  refine JSR ?_
  refine JM rfl rfl ?_
  refine JQ (Q_len Tryz.underlying23 rfl (.tmp rfl)) rfl ?_
  refine JQ (Q_gtr (.tmp rfl) At.int) rfl ?_
  refine JA rfl rfl ?_
  refine JN ?_
  refine J_cond (.tmp rfl) (fun h1 => ?_) (fun h1 => ?_)
  · try simp only [BS, ne_eq] at h1
    refine JSR ?_
    refine JQ (Q_assign At.int) rfl ?_
    refine JN ?_
    refine J_retc ?_
    refine J_blk_ret ?_
    refine J_then_ret ?_
    exact J_ret1 rfl (ResAt.tmp rfl) () trivial Split.nil (imp_eq (vint_eq (by unfold checkB; rw [if_neg h0, if_pos (by first | omega | simp <;> omega)])))
  try simp only [BS, ne_eq] at h1
  refine J_skip ?_
  refine J_blk_normal ?_
  refine J_then_normal ?_
  refine JSR ?_
  refine JQ (Q_assign At.int) rfl ?_
  refine JNSSR ?_
  refine JM rfl rfl ?_
  refine JN ?_
  refine J_block ?_
  refine JSR ?_
  refine JQ (Q_eql (.tmp rfl) At.int) rfl ?_
  refine JA rfl rfl ?_
  refine JN ?_
  refine J_cond (.tmp rfl) (fun h2 => ?_) (fun h2 => ?_)
  · try simp only [BS, ne_eq] at h2
    refine J_region ?_
    refine JM rfl rfl ?_
    refine JQ (Q_call (dtree_c _) ⟨(.tmp rfl), trivial⟩) rfl ?_
    refine JM rfl rfl ?_
    refine JQ (Q_extract (.tmp rfl) rfl) rfl ?_
    refine JQ (Q_extract (.tmp rfl) rfl) rfl ?_
    refine JA rfl rfl ?_
    refine J_nil ?_
    refine J_blk_normal ?_
    refine J_then_normal ?_
    refine JSR ?_
    refine JM rfl rfl ?_
    refine JA rfl rfl ?_
    refine JN ?_
    refine J_retc ?_
    exact J_ret1 rfl (ResAt.tmp rfl) () trivial Split.nil (imp_eq (vint_eq (by unfold checkB; rw [if_neg h0, if_neg (by first | omega | simp <;> omega), if_pos h2])))
  try simp only [BS, ne_eq] at h2
  refine JSR ?_
  refine JQ (Q_eql (.tmp rfl) At.int) rfl ?_
  refine JA rfl rfl ?_
  refine JN ?_
  refine J_cond (.tmp rfl) (fun h3 => ?_) (fun h3 => ?_)
  · try simp only [BS, ne_eq] at h3
    refine J_region ?_
    refine JM rfl rfl ?_
    refine JQ (Q_call (dcommit_c _) ⟨(.tmp rfl), trivial⟩) rfl ?_
    refine JM rfl rfl ?_
    refine JQ (Q_extract (.tmp rfl) rfl) rfl ?_
    refine JQ (Q_extract (.tmp rfl) rfl) rfl ?_
    refine JA rfl rfl ?_
    refine J_nil ?_
    refine J_blk_normal ?_
    refine J_then_normal ?_
    refine JSR ?_
    refine JM rfl rfl ?_
    refine JA rfl rfl ?_
    refine JN ?_
    refine J_retc ?_
    exact J_ret1 rfl (ResAt.tmp rfl) () trivial Split.nil (imp_eq (vint_eq (by unfold checkB; rw [if_neg h0, if_neg (by first | omega | simp <;> omega), if_neg h2, if_pos h3])))
  try simp only [BS, ne_eq] at h3
  refine JSR ?_
  refine JQ (Q_eql (.tmp rfl) At.int) rfl ?_
  refine JA rfl rfl ?_
  refine JN ?_
  refine J_cond (.tmp rfl) (fun h4 => ?_) (fun h4 => ?_)
  · try simp only [BS, ne_eq] at h4
    refine J_region ?_
    refine JM rfl rfl ?_
    refine JQ (Q_call (dtag_c _) ⟨(.tmp rfl), trivial⟩) rfl ?_
    refine JM rfl rfl ?_
    refine JQ (Q_extract (.tmp rfl) rfl) rfl ?_
    refine JQ (Q_extract (.tmp rfl) rfl) rfl ?_
    refine JA rfl rfl ?_
    refine J_nil ?_
    refine J_blk_normal ?_
    refine J_then_normal ?_
    refine JSR ?_
    refine JM rfl rfl ?_
    refine JA rfl rfl ?_
    refine JN ?_
    refine J_retc ?_
    exact J_ret1 rfl (ResAt.tmp rfl) () trivial Split.nil (imp_eq (vint_eq (by unfold checkB; rw [if_neg h0, if_neg (by first | omega | simp <;> omega), if_neg h2, if_neg h3, if_pos h4])))
  try simp only [BS, ne_eq] at h4
  refine J_skip ?_
  refine J_blk_normal ?_
  refine J_then_normal ?_
  refine JSR ?_
  refine JM rfl rfl ?_
  refine JA rfl rfl ?_
  refine JN ?_
  refine J_retc ?_
  exact J_ret1 rfl (ResAt.tmp rfl) () trivial Split.nil (imp_eq (vint_eq (by unfold checkB; rw [if_neg h0, if_neg (by first | omega | simp <;> omega), if_neg h2, if_neg h3, if_neg h4])))
theorem rawEdges_len (k : Int) (b : Bs) : (rawEdges k b).length ≤ 16385 := by
  have h1 := dcommitB_len b
  have h2 := dtreeB_len b
  have h3 := edgesT_len (dtreeB b).1
  unfold rawEdges
  split
  · omega
  · split
    · simp; omega
    · split <;> simp
theorem edges_c (k : Int) (b : Bytes) : FnP Tryz.prog 79 [VInt .i64 k, Sl b] (VTup [Sl (if checkB k b = 0 then edgesB k b else []), VInt .i64 (checkB k b)]) := by
  have hr := rawEdges_len k b
  refine FnP_intro (by kernel_rfl) Tryz.func79 rfl Tryz.ntmps79 rfl (fun e => ?_)
  refine JSR ?_
  refine JQ (Q_assign (At.nils (α := (Arr 20 UInt8)))) rfl ?_
  refine JQ (Q_assign At.int) rfl ?_
  refine JNSSR ?_
  refine JM rfl rfl ?_
  refine JM rfl rfl ?_
  refine JQ (Q_call (check_c _ _) ⟨(.tmp rfl), (.tmp rfl), trivial⟩) rfl ?_
  refine JA rfl rfl ?_
  refine JNSR ?_
  refine JM rfl rfl ?_
  refine JQ (Q_neq (.tmp rfl) At.int) rfl ?_
  refine JN ?_
  refine J_cond (.tmp rfl) (fun h0 => ?_) (fun h0 => ?_)
  · try simp only [BS, ne_eq] at h0
    refine JSR ?_
    refine JM rfl rfl ?_
    refine JQ (Q_assign (At.nils (α := (Arr 20 UInt8)))) rfl ?_
    refine JA rfl rfl ?_
    refine JN ?_
    refine J_retc ?_
    refine J_then_ret ?_
    exact J_ret2 rfl (ResAt.tmp rfl) (ResAt.tmp rfl) () trivial Split.nil (imp_eq (by rw [if_neg h0]))
  try simp only [BS, ne_eq] at h0
  refine J_skip ?_
  refine J_then_normal ?_
  refine JSR ?_
  refine JQ (Q_assign (At.nils (α := (Arr 20 UInt8)))) rfl ?_
  refine JNSSR ?_
  refine JM rfl rfl ?_
  refine JN ?_
  refine J_block ?_
  refine JSR ?_
  refine JQ (Q_eql (.tmp rfl) At.int) rfl ?_
  refine JA rfl rfl ?_
  refine JN ?_
  refine J_cond (.tmp rfl) (fun h1 => ?_) (fun h1 => ?_)
  · try simp only [BS, ne_eq] at h1
    have er : rawEdges k b = edgesT (dtreeB b).1 := by unfold rawEdges; rw [if_pos h1]
    rw [er] at hr
    refine J_region ?_
    refine JM rfl rfl ?_
    refine JQ (Q_call (treeEdges_c _) ⟨(.tmp rfl), trivial⟩) rfl ?_
    refine JM rfl rfl ?_
    refine JQ (Q_extract (.tmp rfl) rfl) rfl ?_
    refine JQ (Q_extract (.tmp rfl) rfl) rfl ?_
    refine JA rfl rfl ?_
    refine J_nil ?_
    refine J_blk_normal ?_
    refine J_then_normal ?_
    refine JSR ?_
    refine JM rfl rfl ?_
    refine JQ (Q_call (sortO_c _ (by first | omega | simp <;> omega)) ⟨(.tmp rfl), trivial⟩) rfl ?_
    refine JA rfl rfl ?_
    refine JQ (Q_assign At.int) rfl ?_
    refine JN ?_
    refine J_retc ?_
    exact J_ret2 rfl (ResAt.tmp rfl) (ResAt.tmp rfl) () trivial Split.nil (imp_eq (by rw [h0, if_pos rfl, edgesB, er]))
  try simp only [BS, ne_eq] at h1
  refine JSR ?_
  refine JQ (Q_eql (.tmp rfl) At.int) rfl ?_
  refine JA rfl rfl ?_
  refine JN ?_
  refine J_cond (.tmp rfl) (fun h2 => ?_) (fun h2 => ?_)
  · try simp only [BS, ne_eq] at h2
    have er : rawEdges k b = (dcommitB b).1.1 :: (dcommitB b).1.2.1 := by unfold rawEdges; rw [if_neg h1, if_pos h2]
    rw [er] at hr
    refine J_region ?_
    refine JM rfl rfl ?_
    refine JQ (Q_call (commitEdges_c _) ⟨(.tmp rfl), trivial⟩) rfl ?_
    refine JM rfl rfl ?_
    refine JQ (Q_extract (.tmp rfl) rfl) rfl ?_
    refine JQ (Q_extract (.tmp rfl) rfl) rfl ?_
    refine JA rfl rfl ?_
    refine J_nil ?_
    refine J_blk_normal ?_
    refine J_then_normal ?_
    refine JSR ?_
    refine JM rfl rfl ?_
    refine JQ (Q_call (sortO_c _ (by first | omega | simp <;> omega)) ⟨(.tmp rfl), trivial⟩) rfl ?_
    refine JA rfl rfl ?_
    refine JQ (Q_assign At.int) rfl ?_
    refine JN ?_
    refine J_retc ?_
    exact J_ret2 rfl (ResAt.tmp rfl) (ResAt.tmp rfl) () trivial Split.nil (imp_eq (by rw [h0, if_pos rfl, edgesB, er]))
  try simp only [BS, ne_eq] at h2
  refine JSR ?_
  refine JQ (Q_eql (.tmp rfl) At.int) rfl ?_
  refine JA rfl rfl ?_
  refine JN ?_
  refine J_cond (.tmp rfl) (fun h3 => ?_) (fun h3 => ?_)
  · try simp only [BS, ne_eq] at h3
    have er : rawEdges k b = [(dtagB b).1.1] := by unfold rawEdges; rw [if_neg h1, if_neg h2, if_pos h3]
    rw [er] at hr
    refine J_region ?_
    refine JM rfl rfl ?_
    refine JQ (Q_call (tagEdges_c _) ⟨(.tmp rfl), trivial⟩) rfl ?_
    refine JM rfl rfl ?_
    refine JQ (Q_extract (.tmp rfl) rfl) rfl ?_
    refine JQ (Q_extract (.tmp rfl) rfl) rfl ?_
    refine JA rfl rfl ?_
    refine J_nil ?_
    refine J_blk_normal ?_
    refine J_then_normal ?_
    refine JSR ?_
    refine JM rfl rfl ?_
    refine JQ (Q_call (sortO_c _ (by first | omega | simp <;> omega)) ⟨(.tmp rfl), trivial⟩) rfl ?_
    refine JA rfl rfl ?_
    refine JQ (Q_assign At.int) rfl ?_
    refine JN ?_
    refine J_retc ?_
    exact J_ret2 rfl (ResAt.tmp rfl) (ResAt.tmp rfl) () trivial Split.nil (imp_eq (by rw [h0, if_pos rfl, edgesB, er]))
  try simp only [BS, ne_eq] at h3
  have er : rawEdges k b = [] := by unfold rawEdges; rw [if_neg h1, if_neg h2, if_neg h3]
  rw [er] at hr
  refine J_skip ?_
  refine J_blk_normal ?_
  refine J_then_normal ?_
  refine JSR ?_
  refine JM rfl rfl ?_
  refine JQ (Q_call (sortO_c _ (by first | omega | simp <;> omega)) ⟨(.tmp rfl), trivial⟩) rfl ?_
  refine JA rfl rfl ?_
  refine JQ (Q_assign At.int) rfl ?_
  refine JN ?_
  refine J_retc ?_
  exact J_ret2 rfl (ResAt.tmp rfl) (ResAt.tmp rfl) () trivial Split.nil (imp_eq (by rw [h0, if_pos rfl, edgesB, er]))
end Go.Sep
namespace Go.Sep
open Go Go.Proofs
open Enc (V)
abbrev Item := Int × List UInt8
abbrev Objs := List (Oid × Item)
def Fits (m : Objs) : Prop := ∀ k x, mget m k = some x → x.2.length ≤ 1048576
def getB (m : Objs) (id : Oid) : Int × Bs × Int := match mget m id with | some x => (x.1, x.2, 0) | none => (0, [], 6)
def egM (m : Objs) (id : Oid) : Option (List Oid) := match mget m id with | some x => if checkB x.1 x.2 = 0 then some (edgesB x.1 x.2) else none | none => none
def putId (k : Int) (d : Bs) : Oid := if checkB k d = 0 then sha1 (canonB k d) else GoZero.z
def putM (m : Objs) (k : Int) (d : Bs) : Objs := if checkB k d = 0 then mset m (sha1 (canonB k d)) (k, d) else m
theorem check_len {k : Int} {d : Bs} (h : checkB k d = 0) : d.length ≤ 16384 := by
  unfold checkB at h
  split at h
  · omega
  · split at h
    · omega
    · omega
theorem getB_some {m : Objs} {id : Oid} {x : Item} (h : mget m id = some x) : getB m id = (x.1, x.2, 0) := by unfold getB; rw [h]
theorem getB_none {m : Objs} {id : Oid} (h : mget m id = none) : getB m id = (0, [], 6) := by unfold getB; rw [h]
theorem findsGet : Finds Tryz.prog 27 "Get" 18 := fun rv w => by kernel_rfl
theorem egM_get (m : Objs) (id : Oid) : egM m id = if (getB m id).2.2 = 0 ∧ checkB (getB m id).1 (getB m id).2.1 = 0 then some (edgesB (getB m id).1 (getB m id).2.1) else none := by
  unfold egM
  cases h : mget m id with
  | none => rw [getB_none h]; simp
  | some x => rw [getB_some h]; simp
attribute [local irreducible] Quiet QStep J At FnX Fn FnP Repl Split Has Post Back GoZ
attribute [local irreducible] checkB edgesB
theorem get_c (m : Objs) (id : Oid) (hm : Fits m) : FnP Tryz.prog 18 [MapTo m, V id] (VTup [VInt .i64 (getB m id).1, Sl (getB m id).2.1, VInt .i64 (getB m id).2.2]) := by
  have hl : ((mget m id).getD GoZero.z).2.length ≤ 1048576 := by
    cases h : mget m id with
    | none => exact Nat.zero_le _
    | some x => exact hm _ _ h
  refine FnP_intro (by kernel_rfl) Tryz.func18 rfl Tryz.ntmps18 rfl (fun e => ?_)
  refine JSR ?_
  refine J_boxI (α := (Arr 20 UInt8)) (.tmp rfl) rfl ?_
  refine JQ (Q_assign At.int) rfl ?_
  refine JQ (Q_assign (At.nils (α := UInt8))) rfl ?_
  refine JQ (Q_assign At.int) rfl ?_
  refine JNSR ?_
  refine JM rfl rfl ?_
  refine JQ (Q_load (.tmp rfl) T38) rfl ?_
  refine JQ (by first | exact Q_lookupOk Tryz.underlying27 (KT38) Z47 (.tmp rfl) (.tmp rfl) | exact Q_lookupOkR Tryz.underlying27 (KT38) Z47 (.tmp rfl) (.tmp rfl) (by repeat first | exact R0 | apply RT)) rfl ?_
  refine JM rfl rfl ?_
  refine JQ (Q_extract (.tmp rfl) rfl) rfl ?_
  refine JQ (Q_extract (.tmp rfl) rfl) rfl ?_
  refine J_alloc Z47 rfl (fun b7 => ?_)
  refine J_store (.tmp rfl) (.tmp rfl) (by (try dsimp only) <;> rfl) (by repeat first | exact R1 | apply RT) Lens.id T47.size ?_
  refine J_freezeB (sl := 7) (by repeat first | exact R0 | apply RT) rfl ?_
  refine JA rfl rfl ?_
  refine JNSSR ?_
  refine JM rfl rfl ?_
  refine JQ (Q_not (.tmp rfl)) rfl ?_
  refine JN ?_
  refine J_cond (.tmp rfl) (fun h0 => ?_) (fun h0 => ?_)
  · try simp only [BS, ne_eq] at h0
    refine JSR ?_
    refine JQ (Q_assign At.int) rfl ?_
    refine JQ (Q_assign (At.nils (α := UInt8))) rfl ?_
    refine JQ (Q_assign At.int) rfl ?_
    refine JN ?_
    refine J_retc ?_
    refine J_then_ret ?_
    exact J_ret3 rfl (ResAt.tmp rfl) (ResAt.tmp rfl) (ResAt.tmp rfl) () trivial Split.nil (imp_eq (by rw [getB_none (by cases h : mget m id with | none => rfl | some x => rw [h] at h0; cases h0)]))
  try simp only [BS, ne_eq] at h0
  refine J_skip ?_
  refine J_then_normal ?_
  refine J_seq ?_
  refine J_draw mix 9 [17, 18, 19, 20, 21, 22, 4, 5, 6] [_, _, _, _, _, _, _, _, _] rfl rfl (by kernel_rfl) (by kernel_rfl) (by kernel_rfl) (by kernel_rfl) (by kernel_rfl) ⟨QS (Q_fieldAddrI F47_0 (by decide) (Lens.fst Lens.id) (.tmp rfl)) rfl, QS (Q_load (.tmp rfl) T3) rfl, QS (Q_fieldAddrI F47_1 (by decide) (Lens.snd Lens.id (by first | rfl | (simp only [Enc.size, Nat.zero_add, Nat.mul_one, Nat.add_zero]; omega))) (.tmp rfl)) rfl, QS (Q_load (.tmp rfl) T23) rfl, QS (Q_call (cloneB_c _ (Nat.le_trans hl (by first | omega | simp <;> omega))) ⟨(.tmp rfl), trivial⟩) rfl, QS (Q_call (clipB_c _) ⟨(.tmp rfl), trivial⟩) rfl, QS (Q_assign (.tmp rfl)) rfl, QS (Q_assign (.tmp rfl)) rfl, QS (Q_assign At.int) rfl, trivial⟩ ?_
  refine JN ?_
  refine J_retc ?_
  exact J_ret3 rfl (ResAt.tmp rfl) (ResAt.tmp rfl) (ResAt.tmp rfl) () trivial Split.nil (imp_eq (by obtain ⟨x, hx⟩ := Option.isSome_iff_exists.1 h0; rw [getB_some hx, hx]; rfl))
theorem rget_c (m : Objs) (id : Oid) (hm : Fits m) : FnP Tryz.prog 43 [VIface 27 (MapTo m), V id] (VTup [VInt .i64 (getB m id).1, Sl (getB m id).2.1, VBool (decide ((getB m id).2.2 = 0) && decide (checkB (getB m id).1 (getB m id).2.1 = 0))]) := by
  refine FnP_intro (by kernel_rfl) Tryz.func43 rfl Tryz.ntmps43 rfl (fun e => ?_)
  refine JSR ?_
  refine J_boxI (α := (Arr 20 UInt8)) (.tmp rfl) rfl ?_
  refine JQ (Q_assign At.int) rfl ?_
  refine JQ (Q_assign (At.nils (α := UInt8))) rfl ?_
  refine JQ (Q_assign At.bool) rfl ?_
  refine JNSR ?_
  refine JM rfl rfl ?_
  refine JQ (Q_load (.tmp rfl) T38) rfl ?_
  refine J_invoke findsGet ((get_c m id hm).fn) (.tmp rfl) ⟨(.tmp rfl), trivial⟩ Split.nil rfl (fun r11 hr11 => ?_)
  refine JM rfl rfl ?_
  refine JQ (Q_extract (.tmp rfl) rfl) rfl ?_
  refine JQ (Q_extract (.tmp rfl) rfl) rfl ?_
  refine JQ (Q_extract (.tmp rfl) rfl) rfl ?_
  refine JA rfl rfl ?_
  refine JA rfl rfl ?_
  refine JA rfl rfl ?_
  refine JNSR ?_
  refine JM rfl rfl ?_
  refine JM rfl rfl ?_
  refine JM rfl rfl ?_
  refine JQ (Q_eql (.tmp rfl) At.int) rfl ?_
  refine JM rfl rfl ?_
  refine J_qstep (QG rfl rfl rfl rfl rfl opt_bool (fun hg => Q_move (.tmp rfl))) rfl rfl ?_
  refine J_qstep (QG rfl rfl rfl rfl rfl opt_bool (fun hg => Q_move (.tmp rfl))) rfl rfl ?_
  refine J_qstep (QG rfl rfl rfl rfl rfl opt_bool (fun hg => (by have hg0 := hg; simp only [BS, ne_eq] at hg0; exact Q_call (check_c _ _) ⟨(At.opt rfl (by first | exact hg | (simp only [BS, ne_eq] at hg ⊢; first | exact hg | simp_all))), (At.opt rfl (by first | exact hg | (simp only [BS, ne_eq] at hg ⊢; first | exact hg | simp_all))), trivial⟩))) rfl rfl ?_
  refine J_qstep (QG rfl rfl rfl rfl rfl opt_bool (fun hg => (by have hg0 := hg; simp only [BS, ne_eq] at hg0; exact Q_eql (At.opt rfl (by first | exact hg | (simp only [BS, ne_eq] at hg ⊢; first | exact hg | simp_all))) At.int))) rfl rfl ?_
  refine JQ (Q_andB (.tmp rfl) (fun hb => At.opt rfl (by simp only [BS, ne_eq] at hb ⊢; first | exact hb | simp_all))) rfl ?_
  refine JA rfl rfl ?_
  refine JA rfl rfl ?_
  refine JA rfl rfl ?_
  refine JN ?_
  refine J_retc ?_
  exact J_ret3 rfl (ResAt.tmp rfl) (ResAt.tmp rfl) (ResAt.tmp rfl) () trivial Split.nil imp_refl
theorem redges_c (m : Objs) (id : Oid) (hm : Fits m) : FnP Tryz.prog 56 [VIface 27 (MapTo m), V id] (VTup [Sl ((egM m id).getD []), VBool (egM m id).isSome]) := by
  have he := egM_get m id
  refine FnP_intro (by kernel_rfl) Tryz.func56 rfl Tryz.ntmps56 rfl (fun e => ?_)
  refine JSR ?_
  refine J_boxI (α := (Arr 20 UInt8)) (.tmp rfl) rfl ?_
  refine JQ (Q_assign (At.nils (α := (Arr 20 UInt8)))) rfl ?_
  refine JQ (Q_assign At.bool) rfl ?_
  refine JNSR ?_
  refine JM rfl rfl ?_
  refine JQ (Q_load (.tmp rfl) T38) rfl ?_
  refine JQ (Q_call (rget_c _ _ (by assumption)) ⟨(.tmp rfl), (.tmp rfl), trivial⟩) rfl ?_
  refine JM rfl rfl ?_
  refine JQ (Q_extract (.tmp rfl) rfl) rfl ?_
  refine JQ (Q_extract (.tmp rfl) rfl) rfl ?_
  refine JQ (Q_extract (.tmp rfl) rfl) rfl ?_
  refine JA rfl rfl ?_
  refine JA rfl rfl ?_
  refine JA rfl rfl ?_
  refine JNSSR ?_
  refine JM rfl rfl ?_
  refine JQ (Q_not (.tmp rfl)) rfl ?_
  refine JN ?_
  refine J_cond (.tmp rfl) (fun h0 => ?_) (fun h0 => ?_)
  · try simp only [BS, ne_eq] at h0
    refine JSR ?_
    refine JQ (Q_assign (At.nils (α := (Arr 20 UInt8)))) rfl ?_
    refine JQ (Q_assign At.bool) rfl ?_
    refine JN ?_
    refine J_retc ?_
    refine J_then_ret ?_
    exact J_ret2 rfl (ResAt.tmp rfl) (ResAt.tmp rfl) () trivial Split.nil (imp_eq (by rw [he, if_neg (by rintro ⟨q1, q2⟩; simp [q1, q2] at h0)]; rfl))
  try simp only [BS, ne_eq] at h0
  refine J_skip ?_
  refine J_then_normal ?_
  refine JSR ?_
  refine JM rfl rfl ?_
  refine JM rfl rfl ?_
  refine JQ (Q_call (edges_c _ _) ⟨(.tmp rfl), (.tmp rfl), trivial⟩) rfl ?_
  refine JM rfl rfl ?_
  refine JQ (Q_extract (.tmp rfl) rfl) rfl ?_
  refine JQ (Q_extract (.tmp rfl) rfl) rfl ?_
  refine JA rfl rfl ?_
  refine JA rfl rfl ?_
  refine JNSR ?_
  refine JM rfl rfl ?_
  refine JA rfl rfl ?_
  refine JQ (Q_assign At.bool) rfl ?_
  refine JN ?_
  refine J_retc ?_
  exact J_ret2 rfl (ResAt.tmp rfl) (ResAt.tmp rfl) () trivial Split.nil (imp_eq (by rw [he, h0.1, h0.2]; rfl))
theorem put_m {b : Nat} (m : Objs) (k : Int) (d : Bytes) : Fn Tryz.prog 26 [MapP b, VInt .i64 k, Sl d] [MapR b m] (fun _ : Unit => True) (fun _ => V (putId k d)) (fun _ => [MapR b (putM m k d)]) := by
  refine Fn_intro (by kernel_rfl) Tryz.func26 rfl Tryz.ntmps26 rfl (fun e => ?_)
  refine JSR ?_
  refine J_alloc Z38 rfl (fun b6 => ?_)
  refine JNSSR ?_
  refine JM rfl rfl ?_
  refine JM rfl rfl ?_
  refine JQ (Q_call (check_c _ _) ⟨(.tmp rfl), (.tmp rfl), trivial⟩) rfl ?_
  refine JQ (Q_neq (.tmp rfl) At.int) rfl ?_
  refine JN ?_
  refine J_cond (.tmp rfl) (fun h0 => ?_) (fun h0 => ?_)
  · try simp only [BS, ne_eq] at h0
    refine JSR ?_
    refine JQ (Q_build Z38 T38.agg (by kernel_rfl) BP.nil) rfl ?_
    refine J_store (.tmp rfl) (.tmp rfl) (by (try dsimp only) <;> rfl) (by repeat first | exact R1 | apply RT) Lens.id T38.size ?_
    refine JN ?_
    refine J_retc ?_
    refine J_then_ret ?_
    exact J_ret1 rfl (ResAt.box rfl (by repeat first | exact R0 | apply RT) T38) () trivial (Split.take (Repl.map (by repeat first | exact R0 | apply RT) (by unfold putM; rw [if_neg h0])) Split.nil) (imp_eq (by unfold putId; rw [if_neg h0]))
  try simp only [BS, ne_eq] at h0
  have hd := check_len h0
  refine J_skip ?_
  refine J_then_normal ?_
  refine JSR ?_
  refine JM rfl rfl ?_
  refine JM rfl rfl ?_
  refine JQ (Q_call (objID_c _ _ (by first | omega | simp <;> omega)) ⟨(.tmp rfl), (.tmp rfl), trivial⟩) rfl ?_
  refine J_alloc Z38 rfl (fun b7 => ?_)
  refine J_store (.tmp rfl) (.tmp rfl) (by (try dsimp only) <;> rfl) (by repeat first | exact R1 | apply RT) Lens.id T38.size ?_
  refine J_freezeB (sl := 7) (by repeat first | exact R0 | apply RT) rfl ?_
  refine JN ?_
  refine J_seq ?_
  refine J_draw mix 6 [16, 17, 18, 19, 20, 21] [_, _, _, _, _, _] rfl rfl (by kernel_rfl) (by kernel_rfl) (by kernel_rfl) (by kernel_rfl) (by kernel_rfl) ⟨QS (Q_move (.tmp rfl)) rfl, QS (Q_load (.tmp rfl) T38) rfl, QS (Q_move (.tmp rfl)) rfl, QS (Q_move (.tmp rfl)) rfl, QS (Q_call (cloneB_c _ (by first | omega | simp <;> omega)) ⟨(.tmp rfl), trivial⟩) rfl, QS (Q_build Z47 T47.agg (by kernel_rfl) (BP.cons PL47_0 (Lens.fst Lens.id) (.tmp rfl) (BP.cons PL47_1 (Lens.snd Lens.id (by first | rfl | (simp only [Enc.size, Nat.zero_add, Nat.mul_one, Nat.add_zero]; omega))) (.tmp rfl) BP.nil))) rfl, trivial⟩ ?_
  refine J_mapUpdate (κ := (Arr 20 UInt8)) (β := (Int × (List UInt8))) Tryz.underlying27 (KT38) (.tmp rfl) (.tmp rfl) (.tmp rfl) rfl (by repeat first | exact R1 | apply RT) ?_
  refine JNSR ?_
  refine JQ (Q_load (.tmp rfl) T38) rfl ?_
  refine J_store (.tmp rfl) (.tmp rfl) (by (try dsimp only) <;> rfl) (by repeat first | exact R1 | apply RT) Lens.id T38.size ?_
  refine JN ?_
  refine J_retc ?_
  exact J_ret1 rfl (ResAt.box rfl (by repeat first | exact R0 | apply RT) T38) () trivial (Split.take (Repl.map (by repeat first | exact R0 | apply RT) (by unfold putM; rw [if_pos h0])) Split.nil) (imp_eq (by unfold putId; rw [if_pos h0]))
end Go.Sep
namespace Go.Sep
open Go Go.Proofs
open Enc (V)
def mkeys {β : Type} (m : List (Oid × β)) : List Oid := m.map (·.1)
theorem mem_mkeys {β : Type} {m : List (Oid × β)} {x : Oid} : x ∈ mkeys m ↔ (mget m x).isSome = true := by
  unfold mkeys
  induction m with
  | nil => simp [mget]
  | cons p m ih =>
    unfold mget
    by_cases h : x = p.1
    · simp [h]
    · rw [if_neg h, ← ih]; simp [h]
theorem mset_new {β : Type} {m : List (Oid × β)} {x : Oid} {v : β} (h : mget m x = none) : mset m x v = m ++ [(x, v)] := by
  induction m with
  | nil => rfl
  | cons p m ih =>
    unfold mget at h
    by_cases hx : x = p.1
    · rw [if_pos hx] at h; cases h
    · rw [if_neg hx] at h
      unfold mset
      rw [if_neg hx, ih h]; rfl
theorem mset_keys {β : Type} {m : List (Oid × β)} {x : Oid} {v : β} (h : (mkeys m).Nodup) : (mkeys (mset m x v)).Nodup := by
  cases hx : mget m x with
  | none =>
    rw [mset_new hx]
    unfold mkeys
    rw [List.map_append]
    refine List.nodup_append.2 ⟨h, by simp, fun a ha b hb => ?_⟩
    simp at hb; subst hb
    intro e; subst e
    have := mem_mkeys.1 ha
    rw [hx] at this; cases this
  | some u =>
    have : mkeys (mset m x v) = mkeys m := by
      clear h
      induction m with
      | nil => cases hx
      | cons p m ih =>
        unfold mget at hx
        unfold mset
        by_cases hp : x = p.1
        · rw [if_pos hp]; simp [mkeys, hp]
        · rw [if_neg hp] at hx ⊢
          have := ih hx
          simp only [mkeys, List.map_cons] at this ⊢
          rw [this]
    rw [this]; exact h
section
variable (G : Oid → Option (List Oid)) (fr : List Oid)
def Path : Nat → Oid → Prop
  | 0, x => x ∈ fr
  | n + 1, y => ∃ x l, Path n x ∧ G x = some l ∧ y ∈ l
def Old (n : Nat) (x : Oid) : Prop := ∃ k, k < n ∧ Path G fr k x
def Reach (x : Oid) : Prop := ∃ k, Path G fr k x
def Dist (n : Nat) (x : Oid) : Prop := Path G fr n x ∧ ¬ Old G fr n x
structure BFS (n : Nat) (row : List Oid) (i : Nat) (far : List (Oid × Int)) (gone seen : List (Oid × Bool)) (nx : List Oid) : Prop where
  sound : ∀ x, x ∈ row → Path G fr n x
  compl : ∀ x, Path G fr n x → x ∈ row ∨ Old G fr n x
  hseen : ∀ x, (mget seen x).getD false = true ↔ Old G fr n x ∨ x ∈ row.take i
  hfar : ∀ x v, mget far x = some v ↔ ((∃ k, k < n ∧ v = ((k : Nat) : Int) ∧ Dist G fr k x) ∨ (v = ((n : Nat) : Int) ∧ x ∈ row.take i ∧ ¬ Old G fr n x)) ∧ (G x).isSome = true
  hgone : ∀ x v, mget gone x = some v ↔ v = true ∧ (Old G fr n x ∨ x ∈ row.take i) ∧ G x = none
  hnx : ∀ y, y ∈ nx ↔ ∃ x, x ∈ row.take i ∧ ¬ Old G fr n x ∧ ∃ l, G x = some l ∧ y ∈ l
  nfar : (mkeys far).Nodup
  ngone : (mkeys gone).Nodup
structure WEnd (far : List (Oid × Int)) (gone : List (Oid × Bool)) : Prop where
  hfar : ∀ x v, mget far x = some v ↔ ∃ k : Nat, v = (k : Int) ∧ Dist G fr k x ∧ (G x).isSome = true
  hgone : ∀ x v, mget gone x = some v ↔ v = true ∧ Reach G fr x ∧ G x = none
  nfar : (mkeys far).Nodup
  ngone : (mkeys gone).Nodup
def WDone (most : Int) (far : List (Oid × Int)) (gone : List (Oid × Bool)) : Prop :=
  (WEnd G fr far gone ∧ (far.length : Int) ≤ most) ∨ (most < (far.length : Int) ∧ (mkeys far).Nodup ∧ ∀ x, x ∈ mkeys far → Reach G fr x ∧ (G x).isSome = true)
end
variable {G : Oid → Option (List Oid)} {fr : List Oid} {n i : Nat} {row nx : List Oid} {far : List (Oid × Int)} {gone seen : List (Oid × Bool)}
theorem BFS.start : BFS G fr 0 (sortO fr) 0 [] [] [] [] where
  sound x hx := sortO_mem.1 hx
  compl x hx := .inl (sortO_mem.2 hx)
  hseen x := by simp [mget, Old]
  hfar x v := by simp [mget]
  hgone x v := by simp [mget, Old]
  hnx y := by simp
  nfar := by simp [mkeys]
  ngone := by simp [mkeys]
theorem mem_take_s {i : Nat} (hi : i < row.length) (x : Oid) : x ∈ row.take (i + 1) ↔ x ∈ row.take i ∨ x = row[i] := by
  rw [List.take_succ_eq_append_getElem hi, List.mem_append, List.mem_singleton]
theorem BFS.old (h : BFS G fr n row i far gone seen nx) (hi : i < row.length) (hs : (mget seen row[i]).getD false = true) : BFS G fr n row (i + 1) far gone seen nx := by
  have hq := (h.hseen _).1 hs
  have hQ : ∀ x, (Old G fr n x ∨ x ∈ row.take (i + 1)) ↔ (Old G fr n x ∨ x ∈ row.take i) := fun x => by
    rw [mem_take_s hi]
    constructor
    · rintro (a | a | rfl)
      · exact .inl a
      · exact .inr a
      · exact hq
    · rintro (a | a)
      · exact .inl a
      · exact .inr (.inl a)
  have hT : ∀ x, (x ∈ row.take (i + 1) ∧ ¬ Old G fr n x) ↔ (x ∈ row.take i ∧ ¬ Old G fr n x) := fun x => by
    constructor
    · rintro ⟨a, b⟩
      rcases (hQ x).1 (.inr a) with c | c
      · exact absurd c b
      · exact ⟨c, b⟩
    · rintro ⟨a, b⟩; exact ⟨(mem_take_s hi x).2 (.inl a), b⟩
  refine ⟨h.sound, h.compl, fun x => by rw [h.hseen, hQ], fun x v => by rw [h.hfar, hT], fun x v => by rw [h.hgone, hQ], fun y => ?_, h.nfar, h.ngone⟩
  rw [h.hnx]
  constructor
  · rintro ⟨x, a, b, c⟩; exact ⟨x, (mem_take_s hi x).2 (.inl a), b, c⟩
  · rintro ⟨x, a, b, c⟩; have := (hT x).1 ⟨a, b⟩; exact ⟨x, this.1, this.2, c⟩
theorem seen_set (h : BFS G fr n row i far gone seen nx) (hi : i < row.length) (x : Oid) : (mget (mset seen row[i] true) x).getD false = true ↔ Old G fr n x ∨ x ∈ row.take (i + 1) := by
  rw [mget_mset, mem_take_s hi]
  by_cases hx : x = row[i]
  · rw [if_pos hx]; simp [hx]
  · rw [if_neg hx, h.hseen]; simp [hx]
theorem BFS.lost (h : BFS G fr n row i far gone seen nx) (hi : i < row.length) (hs : ¬ (mget seen row[i]).getD false = true) (hg : G row[i] = none) : BFS G fr n row (i + 1) far (mset gone row[i] true) (mset seen row[i] true) nx := by
  have hq : ¬ (Old G fr n row[i] ∨ row[i] ∈ row.take i) := fun q => hs ((h.hseen _).2 q)
  refine ⟨h.sound, h.compl, seen_set h hi, fun x v => ?_, fun x v => ?_, fun y => ?_, h.nfar, mset_keys h.ngone⟩
  · rw [h.hfar]
    constructor
    · rintro ⟨a | ⟨a, b, c⟩, d⟩
      · exact ⟨.inl a, d⟩
      · exact ⟨.inr ⟨a, (mem_take_s hi x).2 (.inl b), c⟩, d⟩
    · rintro ⟨a | ⟨a, b, c⟩, d⟩
      · exact ⟨.inl a, d⟩
      · rcases (mem_take_s hi x).1 b with b | rfl
        · exact ⟨.inr ⟨a, b, c⟩, d⟩
        · rw [hg] at d; cases d
  · rw [mget_mset]
    by_cases hx : x = row[i]
    · rw [if_pos hx]
      constructor
      · intro e; exact ⟨by simpa using e.symm, .inr ((mem_take_s hi x).2 (.inr hx)), by rw [hx]; exact hg⟩
      · rintro ⟨rfl, _⟩; rfl
    · rw [if_neg hx, h.hgone, mem_take_s hi]; simp [hx]
  · rw [h.hnx]
    constructor
    · rintro ⟨x, a, b, c⟩; exact ⟨x, (mem_take_s hi x).2 (.inl a), b, c⟩
    · rintro ⟨x, a, b, l, c, d⟩
      rcases (mem_take_s hi x).1 a with a | rfl
      · exact ⟨x, a, b, l, c, d⟩
      · rw [hg] at c; cases c
theorem BFS.found {l : List Oid} (h : BFS G fr n row i far gone seen nx) (hi : i < row.length) (hs : ¬ (mget seen row[i]).getD false = true) (hg : G row[i] = some l) :
    BFS G fr n row (i + 1) (mset far row[i] ((n : Nat) : Int)) gone (mset seen row[i] true) (nx ++ l) ∧ mget far row[i] = none := by
  have hq : ¬ (Old G fr n row[i] ∨ row[i] ∈ row.take i) := fun q => hs ((h.hseen _).2 q)
  have hno : ¬ Old G fr n row[i] := fun o => hq (.inl o)
  have hnt : row[i] ∉ row.take i := fun o => hq (.inr o)
  have hnone : mget far row[i] = none := by
    cases hf : mget far row[i] with
    | none => rfl
    | some v =>
      rcases ((h.hfar _ _).1 hf).1 with ⟨k, a, _, b⟩ | ⟨_, b, _⟩
      · exact absurd ⟨k, a, b.1⟩ hno
      · exact absurd b hnt
  refine ⟨⟨h.sound, h.compl, seen_set h hi, fun x v => ?_, fun x v => ?_, fun y => ?_, mset_keys h.nfar, h.ngone⟩, hnone⟩
  · rw [mget_mset]
    by_cases hx : x = row[i]
    · rw [if_pos hx]
      constructor
      · intro e; exact ⟨.inr ⟨by simpa using e.symm, (mem_take_s hi x).2 (.inr hx), by rw [hx]; exact hno⟩, by rw [hx, hg]; rfl⟩
      · rintro ⟨⟨k, a, _, b⟩ | ⟨rfl, _⟩, _⟩
        · rw [hx] at b; exact absurd ⟨k, a, b.1⟩ hno
        · rfl
    · rw [if_neg hx, h.hfar, mem_take_s hi]; simp [hx]
  · rw [h.hgone]
    constructor
    · rintro ⟨a, b | b, c⟩
      · exact ⟨a, .inl b, c⟩
      · exact ⟨a, .inr ((mem_take_s hi x).2 (.inl b)), c⟩
    · rintro ⟨a, b | b, c⟩
      · exact ⟨a, .inl b, c⟩
      · rcases (mem_take_s hi x).1 b with b | rfl
        · exact ⟨a, .inr b, c⟩
        · rw [hg] at c; cases c
  · rw [List.mem_append, h.hnx]
    constructor
    · rintro (⟨x, a, b, c⟩ | a)
      · exact ⟨x, (mem_take_s hi x).2 (.inl a), b, c⟩
      · exact ⟨row[i], (mem_take_s hi _).2 (.inr rfl), hno, l, hg, a⟩
    · rintro ⟨x, a, b, l2, c, d⟩
      rcases (mem_take_s hi x).1 a with a | rfl
      · exact .inl ⟨x, a, b, l2, c, d⟩
      · rw [hg] at c; obtain rfl := Option.some.inj c; exact .inr d
theorem old_s (x : Oid) : Old G fr (n + 1) x ↔ Old G fr n x ∨ Path G fr n x := by
  constructor
  · rintro ⟨k, a, b⟩
    by_cases hk : k = n
    · subst hk; exact .inr b
    · exact .inl ⟨k, by omega, b⟩
  · rintro (⟨k, a, b⟩ | a)
    · exact ⟨k, by omega, b⟩
    · exact ⟨n, by omega, a⟩
theorem BFS.round (h : BFS G fr n row row.length far gone seen nx) : BFS G fr (n + 1) (sortO nx) 0 far gone seen [] := by
  have ht : row.take row.length = row := List.take_length
  have hP : ∀ x, (Old G fr n x ∨ x ∈ row) ↔ Old G fr (n + 1) x := fun x => by
    rw [old_s]
    constructor
    · rintro (a | a); exact .inl a; exact .inr (h.sound x a)
    · rintro (a | a)
      · exact .inl a
      · exact (h.compl x a).symm
  refine ⟨fun x hx => ?_, fun y hy => ?_, fun x => ?_, fun x v => ?_, fun x v => ?_, fun y => by simp, h.nfar, h.ngone⟩
  · obtain ⟨z, a, b, l, c, d⟩ := (h.hnx x).1 (sortO_mem.1 hx)
    rw [ht] at a
    exact ⟨z, l, h.sound z a, c, d⟩
  · obtain ⟨x, l, a, b, c⟩ := hy
    by_cases ho : Old G fr n x
    · obtain ⟨k, hk, hp⟩ := ho
      exact .inr ⟨k + 1, by omega, x, l, hp, b, c⟩
    · refine .inl (sortO_mem.2 ((h.hnx y).2 ⟨x, ?_, ho, l, b, c⟩))
      rw [ht]
      rcases h.compl x a with q | q
      · exact q
      · exact absurd q ho
  · rw [h.hseen, ht, hP]; simp
  · rw [h.hfar, ht]
    simp only [List.take_zero, List.not_mem_nil, false_and, and_false, or_false]
    constructor
    · rintro ⟨⟨k, a, b, c⟩ | ⟨a, b, c⟩, d⟩
      · exact ⟨⟨k, by omega, b, c⟩, d⟩
      · exact ⟨⟨n, by omega, a, h.sound x b, c⟩, d⟩
    · rintro ⟨⟨k, a, b, c⟩, d⟩
      by_cases hk : k = n
      · subst hk
        refine ⟨.inr ⟨b, ?_, c.2⟩, d⟩
        rcases h.compl x c.1 with q | q
        · exact q
        · exact absurd q c.2
      · exact ⟨.inl ⟨k, by omega, b, c⟩, d⟩
  · rw [h.hgone, ht, hP]; simp
theorem BFS.fin (h : BFS G fr n [] 0 far gone seen nx) : WEnd G fr far gone := by
  have h0 : ∀ x, Path G fr n x → Old G fr n x := fun x hx => by
    rcases h.compl x hx with q | q
    · cases q
    · exact q
  have h1 : ∀ k x, Path G fr (n + k) x → Old G fr n x := by
    intro k
    induction k with
    | zero => exact h0
    | succ k ih =>
      rintro y ⟨x, l, a, b, c⟩
      obtain ⟨j, hj, hp⟩ := ih x a
      have hp2 : Path G fr (j + 1) y := ⟨x, l, hp, b, c⟩
      by_cases hjn : j + 1 = n
      · rw [hjn] at hp2; exact h0 y hp2
      · exact ⟨j + 1, by omega, hp2⟩
  have h2 : ∀ x, Reach G fr x ↔ Old G fr n x := fun x => by
    constructor
    · rintro ⟨k, hk⟩
      by_cases hkn : k < n
      · exact ⟨k, hkn, hk⟩
      · exact h1 (k - n) x (by rw [show n + (k - n) = k by omega]; exact hk)
    · rintro ⟨k, _, hk⟩; exact ⟨k, hk⟩
  refine ⟨fun x v => ?_, fun x v => ?_, h.nfar, h.ngone⟩
  · rw [h.hfar]
    simp only [List.take_zero, List.not_mem_nil, false_and, and_false, or_false]
    constructor
    · rintro ⟨⟨k, a, b, c⟩, d⟩; exact ⟨k, b, c, d⟩
    · rintro ⟨k, b, c, d⟩
      refine ⟨⟨k, ?_, b, c⟩, d⟩
      obtain ⟨j, hj, hp⟩ := (h2 x).1 ⟨k, c.1⟩
      apply Nat.lt_of_not_le
      intro hk
      exact c.2 ⟨j, by omega, hp⟩
  · rw [h.hgone, h2]; simp
theorem BFS.sub (h : BFS G fr n row i far gone seen nx) : ∀ x, x ∈ mkeys far → Reach G fr x ∧ (G x).isSome = true := fun x hx => by
  obtain ⟨v, hv⟩ := Option.isSome_iff_exists.1 (mem_mkeys.1 hx)
  obtain ⟨a, b⟩ := (h.hfar x v).1 hv
  refine ⟨?_, b⟩
  rcases a with ⟨k, _, _, c⟩ | ⟨_, c, _⟩
  · exact ⟨k, c.1⟩
  · exact ⟨n, h.sound x (List.mem_of_mem_take c)⟩
theorem egM_some {m : Objs} {x : Oid} (h : (egM m x).isSome = true) : x ∈ mkeys m := by
  rw [mem_mkeys]
  unfold egM at h
  cases hm : mget m x with
  | none => rw [hm] at h; cases h
  | some y => rfl
theorem keys_le {m : Objs} {far : List (Oid × Int)} (h1 : (mkeys far).Nodup) (h2 : ∀ x, x ∈ mkeys far → (egM m x).isSome = true) : far.length ≤ m.length := by
  have := nodup_len_le (m := mkeys m) h1 fun x hx => egM_some (h2 x hx)
  simpa [mkeys] using this
theorem egM_len (m : Objs) (x : Oid) : ((egM m x).getD []).length ≤ 16385 := by
  unfold egM
  cases mget m x with
  | none => simp
  | some y =>
    by_cases h : checkB y.1 y.2 = 0
    · simp only [h, if_true, Option.getD_some]
      exact Nat.le_trans (sortO_len _) (rawEdges_len _ _)
    · simp [h]
end Go.Sep
namespace Go.Sep
open Go Go.Proofs
open Enc (V)
theorem egM_none {m : Objs} {x : Oid} (h : (egM m x).isSome = false) : egM m x = none := by cases he : egM m x with | none => rfl | some l => rw [he] at h; cases h
theorem egM_is {m : Objs} {x : Oid} (h : (egM m x).isSome = true) : egM m x = some ((egM m x).getD []) := by cases he : egM m x with | none => rw [he] at h; cases h | some l => rfl
attribute [local irreducible] Quiet QStep J At FnX Fn FnP Repl Split Has Post Back GoZ
attribute [local irreducible] egM sortO
theorem walk_c (m : Objs) (fr : List Oid) (most : Int) (hm : Fits m) (hml : m.length ≤ 1048576) (hfl : fr.length ≤ 1099511627776) (hmost : 0 ≤ most) :
    Fn Tryz.prog 31 [VIface 27 (MapTo m), Sl fr, VInt .i64 most] [] (fun q : Nat × Nat × List (Oid × Int) × List (Oid × Bool) => WDone (egM m) fr most q.2.2.1 q.2.2.2) (fun q => VTup [MapP q.1, MapP q.2.1])
      (fun q => [MapR q.1 q.2.2.1, MapR q.2.1 q.2.2.2]) := by
  refine Fn_intro (by kernel_rfl) Tryz.func31 rfl Tryz.ntmps31 rfl (fun e => ?_)
  refine J_lenLe (t := 1) rfl (fun hl1 => ?_)
  refine JSR ?_
  refine JQ (Q_assign At.const) rfl ?_
  refine JQ (Q_assign At.const) rfl ?_
  refine JNSR ?_
  refine J_makeMap (Arr 20 UInt8) Int rfl (fun b16 => ?_)
  refine J_makeMap (Arr 20 UInt8) Bool rfl (fun b17 => ?_)
  refine JA rfl rfl ?_
  refine JA rfl rfl ?_
  refine JNSR ?_
  refine JM rfl rfl ?_
  refine JQ (Q_call (sortO_c _ (by first | omega | simp <;> omega)) ⟨(.tmp rfl), trivial⟩) rfl ?_
  refine J_makeMap (Arr 20 UInt8) Bool rfl (fun b20 => ?_)
  refine JA rfl rfl ?_
  refine JA rfl rfl ?_
  refine JNSSR ?_
  refine JQ (Q_assign At.int) rfl ?_
  refine JN ?_
  refine J_block ?_
  refine J_loopU (ι := Nat × List Oid × List (Oid × Int) × List (Oid × Bool) × List (Oid × Bool)) (fun q => match q with | (n, row, far, gone, seen) => BFS (egM m) fr n row 0 far gone seen [] ∧ (far.length : Int) ≤ most ∧ n + (2 * (m.length - far.length) + min row.length 1) ≤ 2 * m.length + 1) (fun q => match q with | (n, row, far, gone, seen) => [(10, VInt .i64 (n : Nat)), (8, Sl row)]) [(0, _), (2, _), (9, _), (6, _), (7, _)] (fun q => match q with | (n, row, far, gone, seen) => [MapR b16 far, MapR b17 gone, MapR b20 seen]) (fun q => match q with | (n, row, far, gone, seen) => 2 * (m.length - far.length) + min row.length 1) ((0, sortO fr, [], [], [])) ⟨BFS.start, by simp; omega, by simp; omega⟩ ⟨fe rfl (by first | rfl | exact vint_eq (by first | omega | simp <;> omega) | exact vsl_eq (by simp) | exact vstr_eq (by simp)), fe rfl (by first | rfl | exact vint_eq (by first | omega | simp <;> omega) | exact vsl_eq (by simp) | exact vstr_eq (by simp)), trivial⟩ ⟨rfl, rfl, rfl, rfl, rfl, trivial⟩ (Has.take (Repl.map (by repeat first | exact R0 | apply RT) (by first | rfl | simp)) (Has.take (Repl.map (by repeat first | exact R0 | apply RT) (by first | rfl | simp)) (Has.take (Repl.map (by repeat first | exact R0 | apply RT) (by first | rfl | simp)) Has.nil))) (fun q hq => ?_)
  obtain ⟨n, row, far, gone, seen⟩ := q
  try dsimp only at hq
  obtain ⟨hB, hfm, hnb⟩ := hq
  refine J_lenLe (t := 8) rfl (fun hlr => ?_)
  refine J_seq ?_
  refine JSR ?_
  refine JM rfl rfl ?_
  refine JQ (Q_len Tryz.underlying29 rfl (.tmp rfl)) rfl ?_
  refine JQ (Q_gtr (.tmp rfl) At.int) rfl ?_
  refine JN ?_
  refine J_cond (.tmp rfl) (fun h0 => ?_) (fun h0 => ?_)
  · try simp only [BS, ne_eq] at h0
    refine J_skip ?_
    refine J_then_normal ?_
    refine J_seq ?_
    refine J_block ?_
    refine JSR ?_
    refine JQ (Q_assign At.const) rfl ?_
    refine JNSSR ?_
    refine JM rfl rfl ?_
    refine JQ (Q_len Tryz.underlying29 rfl (.tmp rfl)) rfl ?_
    refine JQ (Q_move At.int) rfl ?_
    refine JN ?_
    refine J_block ?_
    refine J_rowNil (el := 38) Oid ?_
    refine J_loopU (ι := Nat × Value × List Oid × List (Oid × Int) × List (Oid × Bool) × List (Oid × Bool)) (fun q => match q with | (i, u, nx, far1, gone1, seen1) => i ≤ row.length ∧ BFS (egM m) fr n row i far1 gone1 seen1 nx ∧ (far1.length : Int) ≤ most ∧ nx.length ≤ far1.length * 16385 ∧ far.length ≤ far1.length ∧ (nx ≠ [] → far.length < far1.length)) (fun q => match q with | (i, u, nx, far1, gone1, seen1) => [(28, VInt .i64 (i : Nat)), (11, Is u)]) [(0, _), (2, _), (8, _), (9, _), (10, _), (26, _), (27, _), (6, _), (7, _)] (fun q => match q with | (i, u, nx, far1, gone1, seen1) => [RowR 38 u nx, MapR b16 far1, MapR b17 gone1, MapR b20 seen1]) (fun q => match q with | (i, u, nx, far1, gone1, seen1) => row.length - i) ((0, .slice none 0 0, [], far, gone, seen)) ⟨by omega, hB, hfm, by simp, Nat.le_refl _, fun h => absurd rfl h⟩ ⟨fe rfl (by first | rfl | exact vint_eq (by first | omega | simp <;> omega) | exact vsl_eq (by simp) | exact vstr_eq (by simp)), fe rfl (by first | rfl | exact vint_eq (by first | omega | simp <;> omega) | exact vsl_eq (by simp) | exact vstr_eq (by simp)), trivial⟩ ⟨rfl, rfl, rfl, rfl, rfl, rfl, rfl, rfl, rfl, trivial⟩ (Has.take (Repl.row (by repeat first | exact R0 | apply RT) (by first | rfl | simp)) (Has.take (Repl.map (by repeat first | exact R0 | apply RT) (by first | rfl | simp)) (Has.take (Repl.map (by repeat first | exact R0 | apply RT) (by first | rfl | simp)) (Has.take (Repl.map (by repeat first | exact R0 | apply RT) (by first | rfl | simp)) Has.nil)))) (fun q_1 hq_1 => ?_)
    obtain ⟨i, u, nx, far1, gone1, seen1⟩ := q_1
    try dsimp only at hq_1
    obtain ⟨hi, hB1, hfm1, hnl, hff, hx1⟩ := hq_1
    have hkm := keys_le hB1.nfar (fun x hx => (hB1.sub x hx).2)
    refine JSR ?_
    refine JQ (Q_lss (.tmp rfl) (.tmp rfl)) rfl ?_
    refine JN ?_
    refine J_seq ?_
    refine J_cond (.tmp rfl) (fun h1 => ?_) (fun h1 => ?_)
    · try simp only [BS, ne_eq] at h1
      have hel := egM_len m row[i]
      refine J_skip ?_
      refine J_then_normal ?_
      refine J_seq ?_
      refine J_block ?_
      refine JSR ?_
      refine JQ (by first | exact Q_idxAddrN Tryz.underlying29 T38.size (.tmp rfl) (.tmp rfl) (by first | omega | simp <;> omega) | exact Q_idxAddr Tryz.underlying29 T38.size (.tmp rfl) (.tmp rfl) (by first | omega | simp <;> omega) (by first | omega | simp <;> omega)) rfl ?_
      refine JQ (Q_load (.tmp rfl) T38) rfl ?_
      refine J_alloc Z38 rfl (fun b13 => ?_)
      refine J_store (.tmp rfl) (.tmp rfl) (by (try dsimp only) <;> rfl) (by repeat first | exact R1 | apply RT) Lens.id T38.size ?_
      refine J_freezeB (sl := 13) (by repeat first | exact R0 | apply RT) rfl ?_
      refine JNSSR ?_
      refine JM rfl rfl ?_
      refine JQ (Q_load (.tmp rfl) T38) rfl ?_
      refine JQ (by first | exact Q_lookup Tryz.underlying87 (KT38) Z4 (.tmp rfl) (.tmp rfl) | exact Q_lookupR Tryz.underlying87 (KT38) Z4 (.tmp rfl) (.tmp rfl) (by repeat first | exact R0 | apply RT)) rfl ?_
      refine JN ?_
      refine J_cond (.tmp rfl) (fun h2 => ?_) (fun h2 => ?_)
      · try simp only [BS, ne_eq] at h2
        refine J_exit ?_
        refine J_then_exit ?_
        refine J_blk_out ?_
        refine J_then_normal ?_
        refine J_region ?_
        refine JQ (Q_addi (.tmp rfl) At.int (by first | omega | simp <;> omega) (by first | omega | simp <;> omega)) rfl ?_
        refine JM rfl rfl ?_
        refine JN ?_
        refine J_back ((i + 1, u, nx, far1, gone1, seen1)) ?_ ?_ ?_ ?_
        · exact ⟨⟨by omega, hB1.old (by first | omega | simp <;> omega) h2, hfm1, hnl, hff, hx1⟩, by simp only; omega⟩
        · exact ⟨fe rfl (by first | rfl | exact vint_eq (by first | omega | simp <;> omega) | exact vsl_eq (by simp) | exact vstr_eq (by simp)), fe rfl (by first | rfl | exact vint_eq (by first | omega | simp <;> omega) | exact vsl_eq (by simp) | exact vstr_eq (by simp)), trivial⟩
        · exact ⟨rfl, rfl, rfl, rfl, rfl, rfl, rfl, rfl, rfl, trivial⟩
        · exact (Has.take (Repl.row (by repeat first | exact R0 | apply RT) (by first | rfl | simp)) (Has.take (Repl.map (by repeat first | exact R0 | apply RT) (by first | rfl | simp)) (Has.take (Repl.map (by repeat first | exact R0 | apply RT) (by first | rfl | simp)) (Has.take (Repl.map (by repeat first | exact R0 | apply RT) (by first | rfl | simp)) Has.nil))))
      try simp only [BS, ne_eq] at h2
      refine J_skip ?_
      refine J_then_normal ?_
      refine JSR ?_
      refine JM rfl rfl ?_
      refine JQ (Q_load (.tmp rfl) T38) rfl ?_
      refine J_mapUpdate (κ := (Arr 20 UInt8)) (β := Bool) Tryz.underlying87 (KT38) (.tmp rfl) (.tmp rfl) At.bool rfl (by repeat first | exact R1 | apply RT) ?_
      refine JNSR ?_
      refine JM rfl rfl ?_
      refine JQ (Q_load (.tmp rfl) T38) rfl ?_
      refine JQ (Q_call (redges_c _ _ (by assumption)) ⟨(.tmp rfl), (.tmp rfl), trivial⟩) rfl ?_
      refine JM rfl rfl ?_
      refine JQ (Q_extract (.tmp rfl) rfl) rfl ?_
      refine JQ (Q_extract (.tmp rfl) rfl) rfl ?_
      refine JA rfl rfl ?_
      refine JA rfl rfl ?_
      refine JNSSR ?_
      refine JM rfl rfl ?_
      refine JQ (Q_not (.tmp rfl)) rfl ?_
      refine JN ?_
      refine J_cond (.tmp rfl) (fun h3 => ?_) (fun h3 => ?_)
      · try simp only [BS, ne_eq] at h3
        refine JSR ?_
        refine JM rfl rfl ?_
        refine JQ (Q_load (.tmp rfl) T38) rfl ?_
        refine J_mapUpdate (κ := (Arr 20 UInt8)) (β := Bool) Tryz.underlying87 (KT38) (.tmp rfl) (.tmp rfl) At.bool rfl (by repeat first | exact R1 | apply RT) ?_
        refine JN ?_
        refine J_exit ?_
        refine J_then_exit ?_
        refine J_blk_out ?_
        refine J_then_normal ?_
        refine J_region ?_
        refine JQ (Q_addi (.tmp rfl) At.int (by first | omega | simp <;> omega) (by first | omega | simp <;> omega)) rfl ?_
        refine JM rfl rfl ?_
        refine JN ?_
        refine J_back ((i + 1, u, nx, far1, mset gone1 row[i] true, mset seen1 row[i] true)) ?_ ?_ ?_ ?_
        · exact ⟨⟨by omega, hB1.lost (by first | omega | simp <;> omega) (fun q => by rw [show (mget seen1 row[i]).getD false = _ from h2] at q; cases q) (egM_none h3), hfm1, hnl, hff, hx1⟩, by simp only; omega⟩
        · exact ⟨fe rfl (by first | rfl | exact vint_eq (by first | omega | simp <;> omega) | exact vsl_eq (by simp) | exact vstr_eq (by simp)), fe rfl (by first | rfl | exact vint_eq (by first | omega | simp <;> omega) | exact vsl_eq (by simp) | exact vstr_eq (by simp)), trivial⟩
        · exact ⟨rfl, rfl, rfl, rfl, rfl, rfl, rfl, rfl, rfl, trivial⟩
        · exact (Has.take (Repl.row (by repeat first | exact R0 | apply RT) (by first | rfl | simp)) (Has.take (Repl.map (by repeat first | exact R0 | apply RT) (by first | rfl | simp)) (Has.take (Repl.map (by repeat first | exact R0 | apply RT) (by first | rfl | simp)) (Has.take (Repl.map (by repeat first | exact R0 | apply RT) (by first | rfl | simp)) Has.nil))))
      try simp only [BS, ne_eq] at h3
      have hF := hB1.found (by first | omega | simp <;> omega) (fun q => by rw [show (mget seen1 row[i]).getD false = _ from h2] at q; cases q) (egM_is h3)
      have hlen2 : (mset far1 row[i] ((n : Nat) : Int)).length = far1.length + 1 := by rw [mset_new hF.2]; simp
      refine J_skip ?_
      refine J_then_normal ?_
      refine J_seq ?_
      refine JSR ?_
      refine JM rfl rfl ?_
      refine JQ (Q_load (.tmp rfl) T38) rfl ?_
      refine JM rfl rfl ?_
      refine J_mapUpdate (κ := (Arr 20 UInt8)) (β := Int) Tryz.underlying40 (KT38) (.tmp rfl) (.tmp rfl) (.tmp rfl) rfl (by repeat first | exact R1 | apply RT) ?_
      refine JNSR ?_
      refine JM rfl rfl ?_
      refine JQ (by first | exact Q_lenM Tryz.underlying40 rfl (.tmp rfl) | exact Q_lenMR Tryz.underlying40 rfl (.tmp rfl) (by repeat first | exact R0 | apply RT)) rfl ?_
      refine JM rfl rfl ?_
      refine JQ (Q_gtr (.tmp rfl) (.tmp rfl)) rfl ?_
      refine JN ?_
      refine J_cond (.tmp rfl) (fun h4 => ?_) (fun h4 => ?_)
      · try simp only [BS, ne_eq] at h4
        refine JSR ?_
        refine JM rfl rfl ?_
        refine JM rfl rfl ?_
        refine JA rfl rfl ?_
        refine JA rfl rfl ?_
        refine JN ?_
        refine J_retc ?_
        refine J_then_ret ?_
        refine J_blk_ret ?_
        refine J_then_ret ?_
        refine J_then_ret ?_
        refine J_blk_ret ?_
        refine J_then_ret ?_
        refine J_blk_ret ?_
        refine J_then_ret ?_
        refine J_then_ret ?_
        refine J_blk_ret ?_
        refine J_then_ret ?_
        exact J_ret2 rfl (ResAt.tmp rfl) (ResAt.tmp rfl) (b16, b17, mset far1 row[i] ((n : Nat) : Int), gone1) (.inr ⟨h4, hF.1.nfar, hF.1.sub⟩) (Split.take (by repeat first | exact R0 | apply RT) (Split.take (by repeat first | exact R0 | apply RT) Split.nil)) imp_refl
      try simp only [BS, ne_eq] at h4
      refine J_skip ?_
      refine J_then_normal ?_
      refine J_region ?_
      refine JM rfl rfl ?_
      refine JM rfl rfl ?_
      refine J_append (α := (Arr 20 UInt8)) E38 Tryz.underlying29 (.tmp rfl) (.tmp rfl) (by repeat first | exact R0 | apply RT) (by first | omega | (simp; omega)) (by first | (simp only [maxLen]; omega) | (simp [maxLen]; omega)) rfl (fun v58 => ?_)
      refine JA rfl rfl ?_
      refine J_nil ?_
      refine J_blk_normal ?_
      refine J_then_normal ?_
      refine J_region ?_
      refine JQ (Q_addi (.tmp rfl) At.int (by first | omega | simp <;> omega) (by first | omega | simp <;> omega)) rfl ?_
      refine JM rfl rfl ?_
      refine JN ?_
      refine J_back ((i + 1, v58, nx ++ (egM m row[i]).getD [], mset far1 row[i] ((n : Nat) : Int), gone1, mset seen1 row[i] true)) ?_ ?_ ?_ ?_
      · exact ⟨⟨by omega, hF.1, by omega, by rw [List.length_append, hlen2]; omega, by omega, fun _ => by omega⟩, by simp only; omega⟩
      · exact ⟨fe rfl (by first | rfl | exact vint_eq (by first | omega | simp <;> omega) | exact vsl_eq (by simp) | exact vstr_eq (by simp)), fe rfl (by first | rfl | exact vint_eq (by first | omega | simp <;> omega) | exact vsl_eq (by simp) | exact vstr_eq (by simp)), trivial⟩
      · exact ⟨rfl, rfl, rfl, rfl, rfl, rfl, rfl, rfl, rfl, trivial⟩
      · exact (Has.take (Repl.row (by repeat first | exact R0 | apply RT) (by first | rfl | simp)) (Has.take (Repl.map (by repeat first | exact R0 | apply RT) (by first | rfl | simp)) (Has.take (Repl.map (by repeat first | exact R0 | apply RT) (by first | rfl | simp)) (Has.take (Repl.map (by repeat first | exact R0 | apply RT) (by first | rfl | simp)) Has.nil))))
    try simp only [BS, ne_eq] at h1
    refine J_exit ?_
    refine J_then_exit ?_
    refine J_then_exit ?_
    refine J_blk_out ?_
    refine J_then_normal ?_
    refine J_region ?_
    refine J_freezeR (sl := 11) (by repeat first | exact R0 | apply RT) rfl ?_
    refine JM rfl rfl ?_
    refine JQ (Q_call (sortO_c _ (by first | omega | simp <;> omega)) ⟨(.tmp rfl), trivial⟩) rfl ?_
    refine JA rfl rfl ?_
    refine J_nil ?_
    refine J_blk_normal ?_
    refine J_then_normal ?_
    refine J_region ?_
    refine JM rfl rfl ?_
    refine JQ (Q_addi (.tmp rfl) At.int (by first | omega | simp <;> omega) (by first | omega | simp <;> omega)) rfl ?_
    refine JA rfl rfl ?_
    refine JN ?_
    obtain rfl : i = row.length := (by first | omega | simp <;> omega)
    have hB2 := hB1.round
    have hk2 := keys_le hB1.nfar (fun x hx => (hB1.sub x hx).2)
    have hsl := sortO_len nx
    have hkey : 2 * (m.length - far1.length) + min (sortO nx).length 1 < 2 * (m.length - far.length) + min row.length 1 := by by_cases hx0 : nx = []; (subst hx0; have e0 : (sortO ([] : List Oid)).length = 0 := (by simpa using sortO_len ([] : List Oid)); rw [e0]; omega); (have := hx1 hx0; omega)
    refine J_back ((n + 1, sortO nx, far1, gone1, seen1)) ?_ ?_ ?_ ?_
    · exact ⟨⟨hB2, hfm1, by omega⟩, hkey⟩
    · exact ⟨fe rfl (by first | rfl | exact vint_eq (by first | omega | simp <;> omega) | exact vsl_eq (by simp) | exact vstr_eq (by simp)), fe rfl (by first | rfl | exact vint_eq (by first | omega | simp <;> omega) | exact vsl_eq (by simp) | exact vstr_eq (by simp)), trivial⟩
    · exact ⟨rfl, rfl, rfl, rfl, rfl, trivial⟩
    · exact (Has.take (Repl.map (by repeat first | exact R0 | apply RT) (by first | rfl | simp)) (Has.take (Repl.map (by repeat first | exact R0 | apply RT) (by first | rfl | simp)) (Has.take (Repl.map (by repeat first | exact R0 | apply RT) (by first | rfl | simp)) Has.nil)))
  try simp only [BS, ne_eq] at h0
  refine J_exit ?_
  refine J_then_exit ?_
  refine J_then_exit ?_
  refine J_blk_out ?_
  refine J_then_normal ?_
  refine JSR ?_
  refine JM rfl rfl ?_
  refine JM rfl rfl ?_
  refine JA rfl rfl ?_
  refine JA rfl rfl ?_
  refine JN ?_
  refine J_retc ?_
  exact J_ret2 rfl (ResAt.tmp rfl) (ResAt.tmp rfl) (b16, b17, far, gone) (.inl ⟨by obtain rfl : row = [] := List.eq_nil_of_length_eq_zero (by first | omega | simp <;> omega); exact hB.fin, hfm⟩) (Split.take (by repeat first | exact R0 | apply RT) (Split.take (by repeat first | exact R0 | apply RT) Split.nil)) imp_refl
end Go.Sep
namespace Go.Sep
open Go Go.Proofs
open Enc (V)
theorem mkeys_erase {β : Type} {l : List (Oid × β)} {j : Nat} {p : Oid × β} (h : l[j]? = some p) (x : Oid) : x ∈ mkeys l ↔ x = p.1 ∨ x ∈ mkeys (l.eraseIdx j) := by
  obtain ⟨hj, he⟩ := List.getElem?_eq_some_iff.1 h
  have h2 : l = l.take j ++ p :: l.drop (j + 1) := by rw [← he, List.getElem_cons_drop, List.take_append_drop]
  rw [List.eraseIdx_eq_take_drop_succ]
  constructor
  · intro hx
    rw [h2] at hx
    simp only [mkeys, List.map_append, List.map_cons, List.mem_append, List.mem_cons] at hx ⊢
    rcases hx with a | a | a
    · exact .inr (.inl a)
    · exact .inl a
    · exact .inr (.inr a)
  · intro hx
    rw [h2]
    simp only [mkeys, List.map_append, List.map_cons, List.mem_append, List.mem_cons] at hx ⊢
    rcases hx with a | a | a
    · exact .inr (.inl a)
    · exact .inl a
    · exact .inr (.inr a)
theorem mget_mdel {β : Type} {m : List (Oid × β)} {k x : Oid} (h : (mkeys m).Nodup) : mget (mdel m k) x = if x = k then none else mget m x := by
  induction m with
  | nil => simp [mdel, mget]
  | cons p m ih =>
    obtain ⟨h1, h2⟩ := List.nodup_cons.1 h
    unfold mdel
    by_cases hk : k = p.1
    · rw [if_pos hk]
      by_cases hx : x = k
      · rw [if_pos hx]
        cases hm : mget m x with
        | none => rfl
        | some v => exact absurd (mem_mkeys.2 (by rw [hm]; rfl)) (by rw [hx, hk]; exact h1)
      · rw [if_neg hx]
        conv => rhs; unfold mget
        rw [if_neg (by rw [← hk]; exact hx)]
    · rw [if_neg hk]
      conv => lhs; unfold mget
      conv => rhs; unfold mget
      rw [ih h2]
      by_cases hx : x = p.1
      · rw [if_pos hx, if_pos hx, if_neg (by rw [hx]; exact fun e => hk e.symm)]
      · rw [if_neg hx, if_neg hx]
theorem mdel_keys {β : Type} {m : List (Oid × β)} {k : Oid} (h : (mkeys m).Nodup) : (mkeys (mdel m k)).Nodup ∧ ∀ x, x ∈ mkeys (mdel m k) → x ∈ mkeys m := by
  induction m with
  | nil => simp [mdel, mkeys]
  | cons p m ih =>
    obtain ⟨h1, h2⟩ := List.nodup_cons.1 h
    obtain ⟨i1, i2⟩ := ih h2
    unfold mdel
    by_cases hk : k = p.1
    · rw [if_pos hk]; exact ⟨h2, fun x hx => List.mem_cons_of_mem _ hx⟩
    · rw [if_neg hk]
      refine ⟨List.nodup_cons.2 ⟨fun hm => h1 (i2 _ hm), i1⟩, fun x hx => ?_⟩
      rcases List.mem_cons.1 hx with rfl | hx
      · exact List.mem_cons_self
      · exact List.mem_cons_of_mem _ (i2 x hx)
section
variable (G : Oid → Option (List Oid)) (fr : List Oid)
def Found (F : List Oid) : Prop := Rising F ∧ ∀ x, x ∈ F ↔ Reach G fr x ∧ (G x).isSome = true
def Gone (L : List Oid) : Prop := Rising L ∧ ∀ x, x ∈ L ↔ Reach G fr x ∧ G x = none
end
def walkR (F L : List Oid) (most : Int) : List Oid × List Oid × Int := if max most 0 < (F.length : Int) ∨ (0 < (F.length : Int) ∧ most < 0) then ([], [], 5) else (F, L, 0)
def WalkP (m : Objs) (fr : List Oid) (most : Int) (q : List Oid × List Oid × Int) : Prop := ∃ F L, Found (egM m) fr F ∧ Gone (egM m) fr L ∧ q = walkR F L most
theorem Found.ex (m : Objs) (fr : List Oid) : ∃ F, Found (egM m) fr F := by
  refine ⟨sortO ((mkeys m).filter fun x => @decide (Reach (egM m) fr x ∧ (egM m x).isSome = true) (Classical.propDecidable _)), sortO_rising _, fun x => ?_⟩
  rw [sortO_mem, List.mem_filter]
  constructor
  · rintro ⟨_, h⟩; simpa using h
  · intro h; exact ⟨egM_some h.2, by simpa using h⟩
theorem Gone.ex (m : Objs) (fr : List Oid) : ∃ L, Gone (egM m) fr L := by
  refine ⟨sortO ((fr ++ (mkeys m).flatMap fun k => (egM m k).getD []).filter fun x => @decide (Reach (egM m) fr x ∧ egM m x = none) (Classical.propDecidable _)), sortO_rising _, fun x => ?_⟩
  rw [sortO_mem, List.mem_filter]
  constructor
  · rintro ⟨_, h⟩; simpa using h
  · intro h
    refine ⟨?_, by simpa using h⟩
    rw [List.mem_append]
    obtain ⟨⟨k, hk⟩, _⟩ := h
    cases k with
    | zero => exact .inl hk
    | succ k =>
      obtain ⟨y, l, _, hy, hx⟩ := hk
      exact .inr (List.mem_flatMap.2 ⟨y, egM_some (by rw [hy]; rfl), by rw [hy]; exact hx⟩)
theorem Found.unique {G : Oid → Option (List Oid)} {fr F F' : List Oid} (h : Found G fr F) (h' : Found G fr F') : F = F' := h.1.ext h'.1 fun x => by rw [h.2, h'.2]
theorem Gone.unique {G : Oid → Option (List Oid)} {fr F F' : List Oid} (h : Gone G fr F) (h' : Gone G fr F') : F = F' := h.1.ext h'.1 fun x => by rw [h.2, h'.2]
theorem WEnd.found {G : Oid → Option (List Oid)} {fr : List Oid} {far : List (Oid × Int)} {gone : List (Oid × Bool)} (h : WEnd G fr far gone) : Found G fr (sortO (mkeys far)) := by
  refine ⟨sortO_rising _, fun x => ?_⟩
  rw [sortO_mem, mem_mkeys]
  constructor
  · intro hx
    obtain ⟨v, hv⟩ := Option.isSome_iff_exists.1 hx
    obtain ⟨k, _, a, b⟩ := (h.hfar x v).1 hv
    exact ⟨⟨k, a.1⟩, b⟩
  · rintro ⟨⟨k, hk⟩, b⟩
    have hmin : ∃ j, Dist G fr j x := by
      induction k using Nat.strongRecOn with
      | ind k ih =>
        by_cases ho : Old G fr k x
        · obtain ⟨j, hj, hp⟩ := ho; exact ih j hj hp
        · exact ⟨k, hk, ho⟩
    obtain ⟨j, hj⟩ := hmin
    rw [(h.hfar x (j : Int)).2 ⟨j, rfl, hj, b⟩]; rfl
theorem WEnd.gone {G : Oid → Option (List Oid)} {fr : List Oid} {far : List (Oid × Int)} {gone : List (Oid × Bool)} (h : WEnd G fr far gone) : Gone G fr (sortO (mkeys gone)) := by
  refine ⟨sortO_rising _, fun x => ?_⟩
  rw [sortO_mem, mem_mkeys]
  constructor
  · intro hx
    obtain ⟨v, hv⟩ := Option.isSome_iff_exists.1 hx
    exact ((h.hgone x v).1 hv).2
  · intro hx; rw [(h.hgone x true).2 ⟨rfl, hx⟩]; rfl
theorem mkeys_len {β : Type} (m : List (Oid × β)) : (mkeys m).length = m.length := by simp [mkeys]
attribute [local irreducible] Quiet QStep J At FnX Fn FnP Repl Split Has Post Back GoZ
attribute [local irreducible] egM sortO
theorem keysI {bm : Nat} (m : List (Oid × Int)) (hm : m.length ≤ 1099511627775) : Fn Tryz.prog 32 [MapP bm] [MapR bm m] (fun _ : Unit => True) (fun _ => Sl (sortO (mkeys m))) (fun _ => []) := by
  refine Fn_intro (by kernel_rfl) Tryz.func32 rfl Tryz.ntmps32 rfl (fun e => ?_)
  refine JSR ?_
  refine JQ (Q_assign (At.nils (α := (Arr 20 UInt8)))) rfl ?_
  refine JNSR ?_
  refine JQ (Q_assign At.const) rfl ?_
  refine JNSSR ?_
  refine JM rfl rfl ?_
  refine J_range Tryz.underlying40 (.tmp rfl) (by repeat first | exact R0 | apply RT) rfl (fun r6 => ?_)
  refine JN ?_
  refine J_block ?_
  refine J_rowNil (el := 38) Oid ?_
  refine J_loopU (ι := List (Oid × Int) × Value × List Oid × Option (Oid × Int)) (fun q => match q with | (left, u, out, cur) => out.length + left.length = m.length ∧ ∀ x, x ∈ mkeys m ↔ x ∈ out ∨ x ∈ mkeys left) (fun q => match q with | (left, u, out, cur) => [(3, Is u)]) [(2, _), (6, _)] (fun q => match q with | (left, u, out, cur) => [RangeR r6 bm m left cur, RowR 38 u out]) (fun q => match q with | (left, u, out, cur) => left.length) ((m, .slice none 0 0, [], none)) ⟨by simp, fun x => by simp⟩ ⟨fe rfl (by first | rfl | exact vint_eq (by first | omega | simp <;> omega) | exact vsl_eq (by simp) | exact vstr_eq (by simp)), trivial⟩ ⟨rfl, rfl, trivial⟩ (Has.take (Repl.range (by repeat first | exact R0 | apply RT) (by exact ⟨rfl, rfl⟩)) (Has.take (Repl.row (by repeat first | exact R0 | apply RT) (by first | rfl | simp)) Has.nil)) (fun q hq => ?_)
  obtain ⟨left, u, out, cur⟩ := q
  try dsimp only at hq
  obtain ⟨hlen, hmem⟩ := hq
  refine JSR ?_
  refine J_next (.tmp rfl) (fun _ _ => (by repeat first | exact R1 | apply RT)) rfl (fun hleft => ?_) (fun j7 p hp => ?_)
  · skip
    refine JQ (Q_extract (.tmp rfl) rfl) rfl ?_
    refine JN ?_
    refine J_seq ?_
    refine J_cond (.tmp rfl) (fun h0 => ?_) (fun h0 => ?_)
    · exact absurd h0 (by decide)
    try simp only [BS, ne_eq] at h0
    refine J_exit ?_
    refine J_then_exit ?_
    refine J_then_exit ?_
    refine J_blk_out ?_
    refine J_then_normal ?_
    refine JSR ?_
    refine J_freezeR (sl := 3) (by repeat first | exact R0 | apply RT) rfl ?_
    refine JM rfl rfl ?_
    refine JQ (Q_call (sortO_c _ (by first | omega | simp <;> omega)) ⟨(.tmp rfl), trivial⟩) rfl ?_
    refine JA rfl rfl ?_
    refine JN ?_
    refine J_retc ?_
    exact J_ret1 rfl (ResAt.tmp rfl) () trivial Split.nil (imp_eq (vsl_eq (sortO_ext fun x => by rw [hmem]; subst hleft; simp [mkeys])))
  · skip
    refine JQ (Q_extract (.tmp rfl) rfl) rfl ?_
    refine JN ?_
    refine J_seq ?_
    refine J_cond (.tmp rfl) (fun h0 => ?_) (fun h0 => ?_)
    · try simp only [BS, ne_eq] at h0
      refine J_skip ?_
      refine J_then_normal ?_
      refine J_block ?_
      refine JSR ?_
      refine JQ (Q_entry (.tmp rfl) (by repeat first | exact R0 | apply RT)) rfl ?_
      refine JQ (Q_extract (.tmp rfl) rfl) rfl ?_
      refine J_alloc Z38 rfl (fun b4 => ?_)
      refine J_store (.tmp rfl) (.tmp rfl) (by (try dsimp only) <;> rfl) (by repeat first | exact R1 | apply RT) Lens.id T38.size ?_
      refine J_freezeB (sl := 4) (by repeat first | exact R0 | apply RT) rfl ?_
      refine JNR ?_
      refine JM rfl rfl ?_
      refine JQ (Q_load (.tmp rfl) T38) rfl ?_
      refine JQ (Q_buildSlice (α := (Arr 20 UInt8)) E38 Tryz.underlying29 [.tmp 12] [_] rfl rfl ⟨(.tmp rfl), trivial⟩ (Nat.le_of_ble_eq_true rfl)) rfl ?_
      refine J_append (α := (Arr 20 UInt8)) E38 Tryz.underlying29 (.tmp rfl) (.tmp rfl) (by repeat first | exact R0 | apply RT) (by first | omega | (simp; omega)) (by first | (simp only [maxLen]; omega) | (simp [maxLen]; omega)) rfl (fun v14 => ?_)
      refine JA rfl rfl ?_
      refine J_nil ?_
      refine J_blk_normal ?_
      refine J_then_normal ?_
      have hj7 := (List.getElem?_eq_some_iff.1 hp).1
      have hle := List.length_eraseIdx_of_lt hj7
      refine J_back ((left.eraseIdx j7, v14, out ++ [p.1], some p)) ?_ ?_ ?_ ?_
      · exact ⟨⟨by rw [List.length_append, hle]; simp; omega, fun x => by rw [hmem, mkeys_erase hp]; simp [or_assoc]⟩, by simp only; omega⟩
      · exact ⟨fe rfl (by first | rfl | exact vint_eq (by first | omega | simp <;> omega) | exact vsl_eq (by simp) | exact vstr_eq (by simp)), trivial⟩
      · exact ⟨rfl, rfl, trivial⟩
      · exact (Has.take (Repl.range (by repeat first | exact R0 | apply RT) (by exact ⟨rfl, rfl⟩)) (Has.take (Repl.row (by repeat first | exact R0 | apply RT) (by first | rfl | simp)) Has.nil))
    · exact absurd h0 (by decide)
theorem keysB {bm : Nat} (m : List (Oid × Bool)) (hm : m.length ≤ 1099511627775) : Fn Tryz.prog 33 [MapP bm] [MapR bm m] (fun _ : Unit => True) (fun _ => Sl (sortO (mkeys m))) (fun _ => []) := by
  refine Fn_intro (by kernel_rfl) Tryz.func33 rfl Tryz.ntmps33 rfl (fun e => ?_)
  refine JSR ?_
  refine JQ (Q_assign (At.nils (α := (Arr 20 UInt8)))) rfl ?_
  refine JNSR ?_
  refine JQ (Q_assign At.const) rfl ?_
  refine JNSSR ?_
  refine JM rfl rfl ?_
  refine J_range Tryz.underlying87 (.tmp rfl) (by repeat first | exact R0 | apply RT) rfl (fun r6 => ?_)
  refine JN ?_
  refine J_block ?_
  refine J_rowNil (el := 38) Oid ?_
  refine J_loopU (ι := List (Oid × Bool) × Value × List Oid × Option (Oid × Bool)) (fun q => match q with | (left, u, out, cur) => out.length + left.length = m.length ∧ ∀ x, x ∈ mkeys m ↔ x ∈ out ∨ x ∈ mkeys left) (fun q => match q with | (left, u, out, cur) => [(3, Is u)]) [(2, _), (6, _)] (fun q => match q with | (left, u, out, cur) => [RangeR r6 bm m left cur, RowR 38 u out]) (fun q => match q with | (left, u, out, cur) => left.length) ((m, .slice none 0 0, [], none)) ⟨by simp, fun x => by simp⟩ ⟨fe rfl (by first | rfl | exact vint_eq (by first | omega | simp <;> omega) | exact vsl_eq (by simp) | exact vstr_eq (by simp)), trivial⟩ ⟨rfl, rfl, trivial⟩ (Has.take (Repl.range (by repeat first | exact R0 | apply RT) (by exact ⟨rfl, rfl⟩)) (Has.take (Repl.row (by repeat first | exact R0 | apply RT) (by first | rfl | simp)) Has.nil)) (fun q hq => ?_)
  obtain ⟨left, u, out, cur⟩ := q
  try dsimp only at hq
  obtain ⟨hlen, hmem⟩ := hq
  refine JSR ?_
  refine J_next (.tmp rfl) (fun _ _ => (by repeat first | exact R1 | apply RT)) rfl (fun hleft => ?_) (fun j7 p hp => ?_)
  · skip
    refine JQ (Q_extract (.tmp rfl) rfl) rfl ?_
    refine JN ?_
    refine J_seq ?_
    refine J_cond (.tmp rfl) (fun h0 => ?_) (fun h0 => ?_)
    · exact absurd h0 (by decide)
    try simp only [BS, ne_eq] at h0
    refine J_exit ?_
    refine J_then_exit ?_
    refine J_then_exit ?_
    refine J_blk_out ?_
    refine J_then_normal ?_
    refine JSR ?_
    refine J_freezeR (sl := 3) (by repeat first | exact R0 | apply RT) rfl ?_
    refine JM rfl rfl ?_
    refine JQ (Q_call (sortO_c _ (by first | omega | simp <;> omega)) ⟨(.tmp rfl), trivial⟩) rfl ?_
    refine JA rfl rfl ?_
    refine JN ?_
    refine J_retc ?_
    exact J_ret1 rfl (ResAt.tmp rfl) () trivial Split.nil (imp_eq (vsl_eq (sortO_ext fun x => by rw [hmem]; subst hleft; simp [mkeys])))
  · skip
    refine JQ (Q_extract (.tmp rfl) rfl) rfl ?_
    refine JN ?_
    refine J_seq ?_
    refine J_cond (.tmp rfl) (fun h0 => ?_) (fun h0 => ?_)
    · try simp only [BS, ne_eq] at h0
      refine J_skip ?_
      refine J_then_normal ?_
      refine J_block ?_
      refine JSR ?_
      refine JQ (Q_entry (.tmp rfl) (by repeat first | exact R0 | apply RT)) rfl ?_
      refine JQ (Q_extract (.tmp rfl) rfl) rfl ?_
      refine J_alloc Z38 rfl (fun b4 => ?_)
      refine J_store (.tmp rfl) (.tmp rfl) (by (try dsimp only) <;> rfl) (by repeat first | exact R1 | apply RT) Lens.id T38.size ?_
      refine J_freezeB (sl := 4) (by repeat first | exact R0 | apply RT) rfl ?_
      refine JNR ?_
      refine JM rfl rfl ?_
      refine JQ (Q_load (.tmp rfl) T38) rfl ?_
      refine JQ (Q_buildSlice (α := (Arr 20 UInt8)) E38 Tryz.underlying29 [.tmp 12] [_] rfl rfl ⟨(.tmp rfl), trivial⟩ (Nat.le_of_ble_eq_true rfl)) rfl ?_
      refine J_append (α := (Arr 20 UInt8)) E38 Tryz.underlying29 (.tmp rfl) (.tmp rfl) (by repeat first | exact R0 | apply RT) (by first | omega | (simp; omega)) (by first | (simp only [maxLen]; omega) | (simp [maxLen]; omega)) rfl (fun v14 => ?_)
      refine JA rfl rfl ?_
      refine J_nil ?_
      refine J_blk_normal ?_
      refine J_then_normal ?_
      have hj7 := (List.getElem?_eq_some_iff.1 hp).1
      have hle := List.length_eraseIdx_of_lt hj7
      refine J_back ((left.eraseIdx j7, v14, out ++ [p.1], some p)) ?_ ?_ ?_ ?_
      · exact ⟨⟨by rw [List.length_append, hle]; simp; omega, fun x => by rw [hmem, mkeys_erase hp]; simp [or_assoc]⟩, by simp only; omega⟩
      · exact ⟨fe rfl (by first | rfl | exact vint_eq (by first | omega | simp <;> omega) | exact vsl_eq (by simp) | exact vstr_eq (by simp)), trivial⟩
      · exact ⟨rfl, rfl, trivial⟩
      · exact (Has.take (Repl.range (by repeat first | exact R0 | apply RT) (by exact ⟨rfl, rfl⟩)) (Has.take (Repl.row (by repeat first | exact R0 | apply RT) (by first | rfl | simp)) Has.nil))
    · exact absurd h0 (by decide)
end Go.Sep
namespace Go.Sep
open Go Go.Proofs
open Enc (V)
theorem WDone.le {G : Oid → Option (List Oid)} {fr F : List Oid} {most : Int} {far : List (Oid × Int)} {gone : List (Oid × Bool)} (h : WDone G fr most far gone) (hF : Found G fr F) : far.length ≤ F.length := by
  rcases h with ⟨h, _⟩ | ⟨_, h1, h2⟩
  · have := sortO_nodup_len h.nfar
    rw [hF.unique h.found, this, mkeys_len]
    exact Nat.le_refl _
  · have := nodup_len_le (m := F) h1 fun x hx => (hF.2 x).2 (h2 x hx)
    rwa [mkeys_len] at this
theorem WDone.end {G : Oid → Option (List Oid)} {fr : List Oid} {most : Int} {far : List (Oid × Int)} {gone : List (Oid × Bool)} (h : WDone G fr most far gone) (hn : (far.length : Int) ≤ most) : WEnd G fr far gone := by
  rcases h with ⟨h, _⟩ | ⟨h, _⟩
  · exact h
  · omega
theorem WEnd.far_le {m : Objs} {fr : List Oid} {far : List (Oid × Int)} {gone : List (Oid × Bool)} (h : WEnd (egM m) fr far gone) : far.length ≤ m.length :=
  keys_le h.nfar fun x hx => by
    obtain ⟨v, hv⟩ := Option.isSome_iff_exists.1 (mem_mkeys.1 hx)
    obtain ⟨k, _, _, b⟩ := (h.hfar x v).1 hv
    exact b
theorem flat_len (f : Oid → List Oid) (hf : ∀ x, (f x).length ≤ 16385) : ∀ l : List Oid, (l.flatMap f).length ≤ l.length * 16385
  | [] => by simp
  | x :: l => by have := flat_len f hf l; have := hf x; rw [List.flatMap_cons, List.length_append, List.length_cons]; omega
theorem WEnd.gone_le {m : Objs} {fr : List Oid} {far : List (Oid × Int)} {gone : List (Oid × Bool)} (h : WEnd (egM m) fr far gone) : gone.length ≤ fr.length + m.length * 16385 := by
  have h1 := nodup_len_le (m := fr ++ (mkeys m).flatMap fun k => (egM m k).getD []) h.ngone fun x hx => by
    obtain ⟨v, hv⟩ := Option.isSome_iff_exists.1 (mem_mkeys.1 hx)
    obtain ⟨_, ⟨k, hk⟩, _⟩ := (h.hgone x v).1 hv
    rw [List.mem_append]
    cases k with
    | zero => exact .inl hk
    | succ k =>
      obtain ⟨y, l, _, hy, hx⟩ := hk
      exact .inr (List.mem_flatMap.2 ⟨y, egM_some (by rw [hy]; rfl), by rw [hy]; exact hx⟩)
  have h2 := flat_len (fun k => (egM m k).getD []) (egM_len m) (mkeys m)
  rw [List.length_append, mkeys_len] at h1
  rw [mkeys_len] at h2
  omega
theorem max_if (most : Int) : (if most < 0 then 0 else most) = max most 0 := by split <;> omega
theorem walkP_err {m : Objs} {fr : List Oid} {most : Int} {far : List (Oid × Int)} {gone : List (Oid × Bool)} (h : WDone (egM m) fr (if most < 0 then 0 else most) far gone)
    (hc : (if most < 0 then 0 else most) < (far.length : Int) ∨ (0 < (far.length : Int) ∧ most < 0)) : WalkP m fr most ([], [], 5) := by
  obtain ⟨F, hF⟩ := Found.ex m fr
  obtain ⟨L, hL⟩ := Gone.ex m fr
  have := h.le hF
  rw [max_if] at hc
  refine ⟨F, L, hF, hL, ?_⟩
  unfold walkR
  rw [if_pos (by omega)]
theorem walkP_ok {m : Objs} {fr : List Oid} {most : Int} {far : List (Oid × Int)} {gone : List (Oid × Bool)} (h : WDone (egM m) fr (if most < 0 then 0 else most) far gone)
    (hc : (far.length : Int) ≤ (if most < 0 then 0 else most)) (hc2 : ¬ 0 < (far.length : Int) ∨ ¬ most < 0) : WalkP m fr most (sortO (mkeys far), sortO (mkeys gone), 0) := by
  have he := h.end hc
  refine ⟨_, _, he.found, he.gone, ?_⟩
  have := sortO_nodup_len he.nfar
  rw [mkeys_len] at this
  rw [max_if] at hc
  unfold walkR
  rw [this, if_neg (by omega)]
theorem mset_len {β : Type} (m : List (Oid × β)) (x : Oid) (v : β) : (mset m x v).length ≤ m.length + 1 := by
  induction m with
  | nil => simp [mset]
  | cons p m ih => unfold mset; split <;> simp; omega
theorem mem_mset {β : Type} (m : List (Oid × β)) (x y : Oid) (v : β) : y ∈ mkeys (mset m x v) ↔ y ∈ mkeys m ∨ y = x := by
  rw [mem_mkeys, mem_mkeys, mget_mset]
  by_cases h : y = x
  · simp [h]
  · simp [h]
def FarP (m : Objs) (fr : List Oid) (far : List (Oid × Int)) : Prop := ∃ gone, WEnd (egM m) fr far gone
theorem mem_take_s' {l : List Oid} {i : Nat} (hi : i < l.length) (x : Oid) : x ∈ l.take (i + 1) ↔ x ∈ l.take i ∨ x = l[i] := by
  rw [List.take_succ_eq_append_getElem hi, List.mem_append, List.mem_singleton]
def ClosedP (m : Objs) (fr pr : List Oid) (c : Bool) : Prop := ∃ L, Gone (egM m) fr L ∧ (c = true ↔ ∀ x, x ∈ L → x ∈ pr)
def PromisedP (m : Objs) (ids P : List Oid) : Prop := Rising P ∧ ∀ y, y ∈ P ↔ ∃ x, x ∈ ids ∧ y ∈ (egM m x).getD [] ∧ egM m y = none
attribute [local irreducible] Quiet QStep J At FnX Fn FnP Repl Split Has Post Back GoZ
attribute [local irreducible] egM sortO
theorem rwalk_c (m : Objs) (fr : List Oid) (most : Int) (hm : Fits m) (hml : m.length ≤ 1048576) (hfl : fr.length ≤ 1048576) : Fn Tryz.prog 12 [VIface 27 (MapTo m), Sl fr, VInt .i64 most] []
    (WalkP m fr most) (fun q : List Oid × List Oid × Int => VTup [Sl q.1, Sl q.2.1, VInt .i64 q.2.2]) (fun _ => []) := by
  refine Fn_intro (by kernel_rfl) Tryz.func12 rfl Tryz.ntmps12 rfl (fun e => ?_)
  refine JSR ?_
  refine JQ (Q_assign (At.nils (α := (Arr 20 UInt8)))) rfl ?_
  refine JQ (Q_assign (At.nils (α := (Arr 20 UInt8)))) rfl ?_
  refine JQ (Q_assign At.int) rfl ?_
  refine JNSR ?_
  refine JM rfl rfl ?_
  refine JM rfl rfl ?_
  refine JM rfl rfl ?_
  refine JQ (Q_max (.tmp rfl) At.int) rfl ?_
  refine J_call (walk_c m fr (if most < 0 then 0 else most) hm (by first | omega | simp <;> omega) (by first | omega | simp <;> omega) (by split <;> omega)) ⟨(.tmp rfl), (.tmp rfl), (.tmp rfl), trivial⟩ Split.nil rfl (fun r16 hr16 => ?_)
  refine JM rfl rfl ?_
  refine JQ (Q_extract (.tmp rfl) rfl) rfl ?_
  refine JQ (Q_extract (.tmp rfl) rfl) rfl ?_
  refine JA rfl rfl ?_
  refine JA rfl rfl ?_
  refine JNSSR ?_
  refine JM rfl rfl ?_
  refine JQ (by first | exact Q_lenM Tryz.underlying40 rfl (.tmp rfl) | exact Q_lenMR Tryz.underlying40 rfl (.tmp rfl) (by repeat first | exact R0 | apply RT)) rfl ?_
  refine JM rfl rfl ?_
  refine JQ (Q_max (.tmp rfl) At.int) rfl ?_
  refine JQ (Q_gtr (.tmp rfl) (.tmp rfl)) rfl ?_
  refine JM rfl rfl ?_
  refine J_qstep (QG rfl rfl rfl rfl rfl opt_bool (fun hg => Q_move (.tmp rfl))) rfl rfl ?_
  refine J_qstep (QG rfl rfl rfl rfl rfl opt_bool (fun hg => (by have hg0 := hg; simp only [BS, ne_eq] at hg0; exact (by first | exact Q_lenM Tryz.underlying40 rfl (At.opt rfl (by first | exact hg | (simp only [BS, ne_eq] at hg ⊢; first | exact hg | simp_all))) | exact Q_lenMR Tryz.underlying40 rfl (At.opt rfl (by first | exact hg | (simp only [BS, ne_eq] at hg ⊢; first | exact hg | simp_all))) (by repeat first | exact R0 | apply RT))))) rfl rfl ?_
  refine J_qstep (QG rfl rfl rfl rfl rfl opt_bool (fun hg => (by have hg0 := hg; simp only [BS, ne_eq] at hg0; exact Q_gtr (At.opt rfl (by first | exact hg | (simp only [BS, ne_eq] at hg ⊢; first | exact hg | simp_all))) At.int))) rfl rfl ?_
  refine J_qstep (QG rfl rfl rfl rfl rfl opt_bool (fun hg => (by have hg0 := hg; simp only [BS, ne_eq] at hg0; exact Q_move (At.opt rfl (by first | exact hg | (simp only [BS, ne_eq] at hg ⊢; first | exact hg | simp_all)))))) rfl rfl ?_
  refine J_qstep (QG rfl rfl rfl rfl rfl opt_opt (fun hg => Q_move (.tmp rfl))) rfl rfl ?_
  refine J_qstep (QG rfl rfl rfl rfl rfl opt_opt (fun hg => (by have hg0 := hg; simp only [BS, ne_eq] at hg0; exact Q_lss (At.opt rfl (by first | exact hg | (simp only [BS, ne_eq] at hg ⊢; first | exact hg | simp_all))) At.int))) rfl rfl ?_
  refine J_qstep (QG rfl rfl rfl rfl rfl opt_bool (fun hg => (by have hg0 := hg; simp only [BS, ne_eq] at hg0; exact Q_andB (At.opt rfl (by first | exact hg | (simp only [BS, ne_eq] at hg ⊢; first | exact hg | simp_all))) (fun hb => At.opt rfl (by simp only [BS, ne_eq] at hb ⊢; first | exact hb | simp_all))))) rfl rfl ?_
  refine JQ (Q_orB (.tmp rfl) (fun hb => At.opt rfl (by simp only [BS, ne_eq] at hb ⊢; first | exact hb | simp_all))) rfl ?_
  refine JN ?_
  refine J_cond (.tmp rfl) (fun h0 => ?_) (fun h0 => ?_)
  · try simp only [BS, ne_eq] at h0
    refine JSR ?_
    refine JQ (Q_assign (At.nils (α := (Arr 20 UInt8)))) rfl ?_
    refine JQ (Q_assign (At.nils (α := (Arr 20 UInt8)))) rfl ?_
    refine JQ (Q_assign At.int) rfl ?_
    refine JN ?_
    refine J_retc ?_
    refine J_then_ret ?_
    exact J_ret3 rfl (ResAt.tmp rfl) (ResAt.tmp rfl) (ResAt.tmp rfl) ([], [], 5) (walkP_err hr16 h0) Split.nil imp_refl
  try simp only [BS, ne_eq] at h0
  have hd := hr16.end (by first | omega | simp <;> omega)
  have hf1 := hd.far_le
  have hf2 := hd.gone_le
  refine J_skip ?_
  refine J_then_normal ?_
  refine JSR ?_
  refine JM rfl rfl ?_
  refine J_call (keysI _ ?_) ⟨(.tmp rfl), trivial⟩ (Split.take (by repeat first | exact R0 | apply RT) Split.nil) rfl (fun r34 hr34 => ?_)
  · exact (by first | omega | simp <;> omega)
  refine JM rfl rfl ?_
  refine J_call (keysB _ ?_) ⟨(.tmp rfl), trivial⟩ (Split.take (by repeat first | exact R0 | apply RT) Split.nil) rfl (fun r36 hr36 => ?_)
  · exact (by first | omega | simp <;> omega)
  refine JA rfl rfl ?_
  refine JA rfl rfl ?_
  refine JQ (Q_assign At.int) rfl ?_
  refine JN ?_
  refine J_retc ?_
  exact J_ret3 rfl (ResAt.tmp rfl) (ResAt.tmp rfl) (ResAt.tmp rfl) (sortO (mkeys r16.2.2.1), sortO (mkeys r16.2.2.2), 0) (walkP_ok hr16 (by first | omega | simp <;> omega) (by rcases h0 with ⟨_, h0⟩; exact h0)) Split.nil imp_refl
theorem ranks_c (m : Objs) (fr : List Oid) (hm : Fits m) (hml : m.length ≤ 1048576) (hfl : fr.length ≤ 1048576) : Fn Tryz.prog 14 [VIface 27 (MapTo m), Sl fr] []
    (fun q : Nat × List (Oid × Int) => FarP m fr q.2) (fun q => MapP q.1) (fun q => [MapR q.1 q.2]) := by
  refine Fn_intro (by kernel_rfl) Tryz.func14 rfl Tryz.ntmps14 rfl (fun e => ?_)
  refine JSR ?_
  refine JQ (Q_assign At.const) rfl ?_
  refine JNSR ?_
  refine JM rfl rfl ?_
  refine JM rfl rfl ?_
  refine J_call (walk_c m fr 4611686018427387904 hm (by first | omega | simp <;> omega) (by first | omega | simp <;> omega) (by first | omega | simp <;> omega)) ⟨(.tmp rfl), (.tmp rfl), At.int, trivial⟩ Split.nil rfl (fun r10 hr10 => ?_)
  refine JM rfl rfl ?_
  refine JQ (Q_extract (.tmp rfl) rfl) rfl ?_
  refine JQ (Q_extract (.tmp rfl) rfl) rfl ?_
  refine JA rfl rfl ?_
  refine JA rfl rfl ?_
  refine JNSR ?_
  refine JM rfl rfl ?_
  refine JA rfl rfl ?_
  refine JN ?_
  refine J_retc ?_
  exact J_ret1 rfl (ResAt.tmp rfl) (r10.1, r10.2.2.1) ⟨_, by rcases hr10 with ⟨q, _⟩ | ⟨q1, q2, q3⟩; (exact q); (have := keys_le q2 (fun x hx => (q3 x hx).2); omega)⟩ (Split.take (by repeat first | exact R0 | apply RT) Split.nil) imp_refl
theorem closed_c (m : Objs) (fr pr : List Oid) (hm : Fits m) (hml : m.length ≤ 1048576) (hfl : fr.length ≤ 1048576) : Fn Tryz.prog 17 [VIface 27 (MapTo m), Sl fr, Sl pr] []
    (ClosedP m fr pr) (fun c : Bool => VBool c) (fun _ => []) := by
  refine Fn_intro (by kernel_rfl) Tryz.func17 rfl Tryz.ntmps17 rfl (fun e => ?_)
  refine J_lenLe (t := 2) rfl (fun hl2 => ?_)
  refine JSR ?_
  refine JQ (Q_assign At.bool) rfl ?_
  refine JNSR ?_
  refine JM rfl rfl ?_
  refine JM rfl rfl ?_
  refine J_call (walk_c m fr 4611686018427387904 hm (by first | omega | simp <;> omega) (by first | omega | simp <;> omega) (by first | omega | simp <;> omega)) ⟨(.tmp rfl), (.tmp rfl), At.int, trivial⟩ Split.nil rfl (fun r14 hr14 => ?_)
  have hd : WEnd (egM m) fr r14.2.2.1 r14.2.2.2 := by rcases hr14 with ⟨q, _⟩ | ⟨q1, q2, q3⟩; (exact q); (have := keys_le q2 (fun x hx => (q3 x hx).2); omega)
  refine JM rfl rfl ?_
  refine JQ (Q_extract (.tmp rfl) rfl) rfl ?_
  refine JQ (Q_extract (.tmp rfl) rfl) rfl ?_
  refine JA rfl rfl ?_
  refine JA rfl rfl ?_
  refine JNSSR ?_
  refine JM rfl rfl ?_
  refine JQ (Q_len Tryz.underlying29 rfl (.tmp rfl)) rfl ?_
  refine JQ (Q_move At.int) rfl ?_
  refine JN ?_
  refine J_block ?_
  refine J_loopU (ι := Nat × List (Oid × Bool)) (fun q => match q with | (k, g) => k ≤ pr.length ∧ (mkeys g).Nodup ∧ ∀ x v, mget g x = some v ↔ mget r14.2.2.2 x = some v ∧ x ∉ pr.take k) (fun q => match q with | (k, g) => [(19, VInt .i64 (k : Nat))]) [(6, _), (8, _), (17, _), (18, _)] (fun q => match q with | (k, g) => [MapR r14.2.1 g, MapR r14.1 r14.2.2.1]) (fun q => match q with | (k, g) => pr.length - k) ((0, r14.2.2.2)) ⟨by omega, hd.ngone, fun x v => by simp⟩ ⟨fe rfl (by first | rfl | exact vint_eq (by first | omega | simp <;> omega) | exact vsl_eq (by simp) | exact vstr_eq (by simp)), trivial⟩ ⟨rfl, rfl, rfl, rfl, trivial⟩ (Has.take (Repl.map (by repeat first | exact R0 | apply RT) (by first | rfl | simp)) (Has.take (Repl.map (by repeat first | exact R0 | apply RT) (by first | rfl | simp)) Has.nil)) (fun q hq => ?_)
  obtain ⟨k, g⟩ := q
  try dsimp only at hq
  obtain ⟨hk, hgn, hg⟩ := hq
  refine JSR ?_
  refine JQ (Q_lss (.tmp rfl) (.tmp rfl)) rfl ?_
  refine JN ?_
  refine J_seq ?_
  refine J_cond (.tmp rfl) (fun h0 => ?_) (fun h0 => ?_)
  · try simp only [BS, ne_eq] at h0
    refine J_skip ?_
    refine J_then_normal ?_
    refine J_seq ?_
    refine J_block ?_
    refine JSR ?_
    refine JQ (by first | exact Q_idxAddrN Tryz.underlying29 T38.size (.tmp rfl) (.tmp rfl) (by first | omega | simp <;> omega) | exact Q_idxAddr Tryz.underlying29 T38.size (.tmp rfl) (.tmp rfl) (by first | omega | simp <;> omega) (by first | omega | simp <;> omega)) rfl ?_
    refine JQ (Q_load (.tmp rfl) T38) rfl ?_
    refine J_alloc Z38 rfl (fun b10 => ?_)
    refine J_store (.tmp rfl) (.tmp rfl) (by (try dsimp only) <;> rfl) (by repeat first | exact R1 | apply RT) Lens.id T38.size ?_
    refine J_freezeB (sl := 10) (by repeat first | exact R0 | apply RT) rfl ?_
    refine JNR ?_
    refine JM rfl rfl ?_
    refine JQ (Q_load (.tmp rfl) T38) rfl ?_
    refine J_delete (κ := (Arr 20 UInt8)) (β := Bool) Tryz.underlying87 rfl (KT38) (.tmp rfl) (.tmp rfl) rfl (by repeat first | exact R1 | apply RT) ?_
    refine J_nil ?_
    refine J_blk_normal ?_
    refine J_then_normal ?_
    refine J_region ?_
    refine JQ (Q_addi (.tmp rfl) At.int (by first | omega | simp <;> omega) (by first | omega | simp <;> omega)) rfl ?_
    refine JM rfl rfl ?_
    refine JN ?_
    refine J_back ((k + 1, mdel g pr[k])) ?_ ?_ ?_ ?_
    · exact ⟨⟨by omega, (mdel_keys hgn).1, fun x v => by rw [mget_mdel hgn, mem_take_s' (by first | omega | simp <;> omega)]; by_cases hx : x = pr[k]; (rw [if_pos hx]; simp [hx]); (rw [if_neg hx, hg]; simp [hx])⟩, by simp only; omega⟩
    · exact ⟨fe rfl (by first | rfl | exact vint_eq (by first | omega | simp <;> omega) | exact vsl_eq (by simp) | exact vstr_eq (by simp)), trivial⟩
    · exact ⟨rfl, rfl, rfl, rfl, trivial⟩
    · exact (Has.take (Repl.map (by repeat first | exact R0 | apply RT) (by first | rfl | simp)) (Has.take (Repl.map (by repeat first | exact R0 | apply RT) (by first | rfl | simp)) Has.nil))
  try simp only [BS, ne_eq] at h0
  refine J_exit ?_
  refine J_then_exit ?_
  refine J_then_exit ?_
  refine J_blk_out ?_
  refine J_then_normal ?_
  refine JSR ?_
  refine JM rfl rfl ?_
  refine JQ (by first | exact Q_lenM Tryz.underlying87 rfl (.tmp rfl) | exact Q_lenMR Tryz.underlying87 rfl (.tmp rfl) (by repeat first | exact R0 | apply RT)) rfl ?_
  refine JQ (Q_eql (.tmp rfl) At.int) rfl ?_
  refine JA rfl rfl ?_
  refine JN ?_
  refine J_retc ?_
  obtain rfl : k = pr.length := (by first | omega | simp <;> omega)
  rw [List.take_length] at hg
  exact J_ret1 rfl (ResAt.tmp rfl) (decide (((g.length : Nat) : Int) = 0)) ⟨_, hd.gone, by constructor; (intro hc x hx; have hl : g.length = 0 := (by simpa using hc); have hn : g = [] := List.eq_nil_of_length_eq_zero hl; rw [sortO_mem] at hx; obtain ⟨v, hv⟩ := Option.isSome_iff_exists.1 (mem_mkeys.1 hx); exact Classical.byContradiction fun hp => (by have := (hg x v).2 ⟨hv, hp⟩; rw [hn] at this; cases this)); (intro hc; have hn : g = [] := (by cases g with | nil => rfl | cons q g => exact absurd (hc q.1 (by rw [sortO_mem, mem_mkeys]; have hq := ((hg q.1 q.2).1 (by unfold mget; rw [if_pos rfl])).1; rw [hq]; rfl)) ((hg q.1 q.2).1 (by unfold mget; rw [if_pos rfl])).2); subst hn; rfl)⟩ Split.nil imp_refl
theorem promised_c (m : Objs) (ids : List Oid) (hm : Fits m) (hml : m.length ≤ 1048576) (hfl : ids.length ≤ 1048576) : Fn Tryz.prog 28 [VIface 27 (MapTo m), Sl ids] []
    (PromisedP m ids) (fun P : List Oid => Sl P) (fun _ => []) := by
  refine Fn_intro (by kernel_rfl) Tryz.func28 rfl Tryz.ntmps28 rfl (fun e => ?_)
  refine JSR ?_
  refine JQ (Q_assign (At.nils (α := (Arr 20 UInt8)))) rfl ?_
  refine JNSR ?_
  refine J_makeMap (Arr 20 UInt8) Bool rfl (fun b15 => ?_)
  refine JA rfl rfl ?_
  refine JNSSR ?_
  refine JM rfl rfl ?_
  refine JQ (Q_len Tryz.underlying29 rfl (.tmp rfl)) rfl ?_
  refine JQ (Q_move At.int) rfl ?_
  refine JN ?_
  refine J_block ?_
  refine J_loopU (ι := Nat × List (Oid × Bool)) (fun q => match q with | (k, g) => k ≤ ids.length ∧ g.length ≤ k * 16385 ∧ ∀ y, y ∈ mkeys g ↔ ∃ x, x ∈ ids.take k ∧ y ∈ (egM m x).getD [] ∧ egM m y = none) (fun q => match q with | (k, g) => [(18, VInt .i64 (k : Nat))]) [(0, _), (4, _), (5, _), (16, _), (17, _)] (fun q => match q with | (k, g) => [MapR b15 g]) (fun q => match q with | (k, g) => ids.length - k) ((0, [])) ⟨by omega, by simp, fun y => by simp [mkeys]⟩ ⟨fe rfl (by first | rfl | exact vint_eq (by first | omega | simp <;> omega) | exact vsl_eq (by simp) | exact vstr_eq (by simp)), trivial⟩ ⟨rfl, rfl, rfl, rfl, rfl, trivial⟩ (Has.take (Repl.map (by repeat first | exact R0 | apply RT) (by first | rfl | simp)) Has.nil) (fun q hq => ?_)
  obtain ⟨k, g⟩ := q
  try dsimp only at hq
  obtain ⟨hk, hgl, hg⟩ := hq
  refine JSR ?_
  refine JQ (Q_lss (.tmp rfl) (.tmp rfl)) rfl ?_
  refine JN ?_
  refine J_seq ?_
  refine J_cond (.tmp rfl) (fun h0 => ?_) (fun h0 => ?_)
  · try simp only [BS, ne_eq] at h0
    have hel := egM_len m ids[k]
    refine J_skip ?_
    refine J_then_normal ?_
    refine J_seq ?_
    refine J_block ?_
    refine JSR ?_
    refine JQ (by first | exact Q_idxAddrN Tryz.underlying29 T38.size (.tmp rfl) (.tmp rfl) (by first | omega | simp <;> omega) | exact Q_idxAddr Tryz.underlying29 T38.size (.tmp rfl) (.tmp rfl) (by first | omega | simp <;> omega) (by first | omega | simp <;> omega)) rfl ?_
    refine JQ (Q_load (.tmp rfl) T38) rfl ?_
    refine J_alloc Z38 rfl (fun b7 => ?_)
    refine J_store (.tmp rfl) (.tmp rfl) (by (try dsimp only) <;> rfl) (by repeat first | exact R1 | apply RT) Lens.id T38.size ?_
    refine J_freezeB (sl := 7) (by repeat first | exact R0 | apply RT) rfl ?_
    refine JNSR ?_
    refine JM rfl rfl ?_
    refine JQ (Q_load (.tmp rfl) T38) rfl ?_
    refine JQ (Q_call (redges_c _ _ (by assumption)) ⟨(.tmp rfl), (.tmp rfl), trivial⟩) rfl ?_
    refine JM rfl rfl ?_
    refine JQ (Q_extract (.tmp rfl) rfl) rfl ?_
    refine JQ (Q_extract (.tmp rfl) rfl) rfl ?_
    refine JA rfl rfl ?_
    refine JA rfl rfl ?_
    refine JNSR ?_
    refine JM rfl rfl ?_
    refine JQ (Q_len Tryz.underlying29 rfl (.tmp rfl)) rfl ?_
    refine JQ (Q_move At.int) rfl ?_
    refine JN ?_
    refine J_block ?_
    refine J_loopU (ι := Nat × List (Oid × Bool)) (fun q => match q with | (i, g1) => i ≤ ((egM m ids[k]).getD []).length ∧ g1.length ≤ g.length + i ∧ ∀ y, y ∈ mkeys g1 ↔ y ∈ mkeys g ∨ (y ∈ ((egM m ids[k]).getD []).take i ∧ egM m y = none)) (fun q => match q with | (i, g1) => [(30, VInt .i64 (i : Nat))]) [(0, _), (4, _), (5, _), (16, _), (17, _), (18, _), (28, _), (29, _)] (fun q => match q with | (i, g1) => [MapR b15 g1]) (fun q => match q with | (i, g1) => ((egM m ids[k]).getD []).length - i) ((0, g)) ⟨by omega, by omega, fun y => by simp⟩ ⟨fe rfl (by first | rfl | exact vint_eq (by first | omega | simp <;> omega) | exact vsl_eq (by simp) | exact vstr_eq (by simp)), trivial⟩ ⟨rfl, rfl, rfl, rfl, rfl, rfl, rfl, rfl, trivial⟩ (Has.take (Repl.map (by repeat first | exact R0 | apply RT) (by first | rfl | simp)) Has.nil) (fun q_1 hq_1 => ?_)
    obtain ⟨i, g1⟩ := q_1
    try dsimp only at hq_1
    obtain ⟨hi, hg1l, hg1⟩ := hq_1
    refine JSR ?_
    refine JQ (Q_lss (.tmp rfl) (.tmp rfl)) rfl ?_
    refine JN ?_
    refine J_seq ?_
    refine J_cond (.tmp rfl) (fun h1 => ?_) (fun h1 => ?_)
    · try simp only [BS, ne_eq] at h1
      refine J_skip ?_
      refine J_then_normal ?_
      refine J_seq ?_
      refine J_block ?_
      refine JSR ?_
      refine JQ (by first | exact Q_idxAddrN Tryz.underlying29 T38.size (.tmp rfl) (.tmp rfl) (by first | omega | simp <;> omega) | exact Q_idxAddr Tryz.underlying29 T38.size (.tmp rfl) (.tmp rfl) (by first | omega | simp <;> omega) (by first | omega | simp <;> omega)) rfl ?_
      refine JQ (Q_load (.tmp rfl) T38) rfl ?_
      refine J_alloc Z38 rfl (fun b11 => ?_)
      refine J_store (.tmp rfl) (.tmp rfl) (by (try dsimp only) <;> rfl) (by repeat first | exact R1 | apply RT) Lens.id T38.size ?_
      refine J_freezeB (sl := 11) (by repeat first | exact R0 | apply RT) rfl ?_
      refine JNSR ?_
      refine JM rfl rfl ?_
      refine JQ (Q_load (.tmp rfl) T38) rfl ?_
      refine JQ (Q_call (rget_c _ _ (by assumption)) ⟨(.tmp rfl), (.tmp rfl), trivial⟩) rfl ?_
      refine JM rfl rfl ?_
      refine JQ (Q_extract (.tmp rfl) rfl) rfl ?_
      refine JQ (Q_extract (.tmp rfl) rfl) rfl ?_
      refine JQ (Q_extract (.tmp rfl) rfl) rfl ?_
      refine JA rfl rfl ?_
      refine JA rfl rfl ?_
      refine JA rfl rfl ?_
      refine JNSR ?_
      refine JM rfl rfl ?_
      refine JQ (Q_not (.tmp rfl)) rfl ?_
      refine JN ?_
      refine J_cond (.tmp rfl) (fun h2 => ?_) (fun h2 => ?_)
      · try simp only [BS, ne_eq] at h2
        refine J_region ?_
        refine JM rfl rfl ?_
        refine JQ (Q_load (.tmp rfl) T38) rfl ?_
        refine J_mapUpdate (κ := (Arr 20 UInt8)) (β := Bool) Tryz.underlying87 (KT38) (.tmp rfl) (.tmp rfl) At.bool rfl (by repeat first | exact R1 | apply RT) ?_
        refine J_nil ?_
        refine J_blk_normal ?_
        refine J_then_normal ?_
        refine J_region ?_
        refine JQ (Q_addi (.tmp rfl) At.int (by first | omega | simp <;> omega) (by first | omega | simp <;> omega)) rfl ?_
        refine JM rfl rfl ?_
        refine JN ?_
        have hno : egM m ((egM m ids[k]).getD [])[i] = none := by rw [egM_get, if_neg]; rintro ⟨q1, q2⟩; simp [q1, q2] at h2
        refine J_back ((i + 1, mset g1 ((egM m ids[k]).getD [])[i] true)) ?_ ?_ ?_ ?_
        · exact ⟨⟨by omega, Nat.le_trans (mset_len _ _ _) (by first | omega | simp <;> omega), fun y => by rw [mem_mset, hg1, mem_take_s' (by first | omega | simp <;> omega)]; by_cases hy : y = ((egM m ids[k]).getD [])[i]; (simp [hy, hno]); (simp [hy])⟩, by simp only; omega⟩
        · exact ⟨fe rfl (by first | rfl | exact vint_eq (by first | omega | simp <;> omega) | exact vsl_eq (by simp) | exact vstr_eq (by simp)), trivial⟩
        · exact ⟨rfl, rfl, rfl, rfl, rfl, rfl, rfl, rfl, trivial⟩
        · exact (Has.take (Repl.map (by repeat first | exact R0 | apply RT) (by first | rfl | simp)) Has.nil)
      try simp only [BS, ne_eq] at h2
      refine J_skip ?_
      refine J_blk_normal ?_
      refine J_then_normal ?_
      refine J_region ?_
      refine JQ (Q_addi (.tmp rfl) At.int (by first | omega | simp <;> omega) (by first | omega | simp <;> omega)) rfl ?_
      refine JM rfl rfl ?_
      refine JN ?_
      have hso : ¬ egM m ((egM m ids[k]).getD [])[i] = none := by rw [egM_get, if_pos h2]; simp
      refine J_back ((i + 1, g1)) ?_ ?_ ?_ ?_
      · exact ⟨⟨by omega, by omega, fun y => by rw [hg1, mem_take_s' (by first | omega | simp <;> omega)]; by_cases hy : y = ((egM m ids[k]).getD [])[i]; (subst hy; simp [hso]); (simp [hy])⟩, by simp only; omega⟩
      · exact ⟨fe rfl (by first | rfl | exact vint_eq (by first | omega | simp <;> omega) | exact vsl_eq (by simp) | exact vstr_eq (by simp)), trivial⟩
      · exact ⟨rfl, rfl, rfl, rfl, rfl, rfl, rfl, rfl, trivial⟩
      · exact (Has.take (Repl.map (by repeat first | exact R0 | apply RT) (by first | rfl | simp)) Has.nil)
    try simp only [BS, ne_eq] at h1
    refine J_exit ?_
    refine J_then_exit ?_
    refine J_then_exit ?_
    refine J_blk_out ?_
    refine J_blk_normal ?_
    refine J_then_normal ?_
    refine J_region ?_
    refine JQ (Q_addi (.tmp rfl) At.int (by first | omega | simp <;> omega) (by first | omega | simp <;> omega)) rfl ?_
    refine JM rfl rfl ?_
    refine JN ?_
    have hie : i = ((egM m ids[k]).getD []).length := (by first | omega | simp <;> omega)
    rw [hie, List.take_length] at hg1
    refine J_back ((k + 1, g1)) ?_ ?_ ?_ ?_
    · exact ⟨⟨by omega, by omega, fun y => by rw [hg1, hg]; constructor; (rintro (⟨x, a, b⟩ | a); (exact ⟨x, (mem_take_s' (by first | omega | simp <;> omega) x).2 (.inl a), b⟩); (exact ⟨ids[k], (mem_take_s' (by first | omega | simp <;> omega) _).2 (.inr rfl), a⟩)); (rintro ⟨x, a, b⟩; rcases (mem_take_s' (by first | omega | simp <;> omega) x).1 a with a | rfl; (exact .inl ⟨x, a, b⟩); (exact .inr b))⟩, by simp only; omega⟩
    · exact ⟨fe rfl (by first | rfl | exact vint_eq (by first | omega | simp <;> omega) | exact vsl_eq (by simp) | exact vstr_eq (by simp)), trivial⟩
    · exact ⟨rfl, rfl, rfl, rfl, rfl, trivial⟩
    · exact (Has.take (Repl.map (by repeat first | exact R0 | apply RT) (by first | rfl | simp)) Has.nil)
  try simp only [BS, ne_eq] at h0
  refine J_exit ?_
  refine J_then_exit ?_
  refine J_then_exit ?_
  refine J_blk_out ?_
  refine J_then_normal ?_
  refine JSR ?_
  refine JM rfl rfl ?_
  refine J_call (keysB _ ?_) ⟨(.tmp rfl), trivial⟩ (Split.take (by repeat first | exact R0 | apply RT) Split.nil) rfl (fun r48 hr48 => ?_)
  · exact (by first | omega | simp <;> omega)
  refine JA rfl rfl ?_
  refine JN ?_
  refine J_retc ?_
  obtain rfl : k = ids.length := (by first | omega | simp <;> omega)
  rw [List.take_length] at hg
  exact J_ret1 rfl (ResAt.tmp rfl) (sortO (mkeys g)) ⟨sortO_rising _, fun y => by rw [sortO_mem, hg]⟩ Split.nil imp_refl
end Go.Sep
namespace Go.Sep
open Go Go.Proofs
open Enc (V)
theorem take_sB {s : Bs} {k : Nat} (h : k < s.length) (c : UInt8) : c ∉ s.take (k + 1) ↔ c ∉ s.take k ∧ s[k] ≠ c := by
  rw [List.take_succ_eq_append_getElem h, List.mem_append, List.mem_singleton, not_or]
  constructor
  · rintro ⟨a, b⟩; exact ⟨a, fun e => b e.symm⟩
  · rintro ⟨a, b⟩; exact ⟨a, fun e => b e.symm⟩
def twiceB (l : List Oid) : Bool := !decide l.Nodup
theorem take_nodup_s {l : List Oid} {k : Nat} (h : k < l.length) : (l.take (k + 1)).Nodup ↔ (l.take k).Nodup ∧ ∀ j (hj : j < k), l[j] ≠ l[k] := by
  rw [List.take_succ_eq_append_getElem h, List.nodup_append]
  constructor
  · rintro ⟨a, _, b⟩
    refine ⟨a, fun j hj e => b l[j] (List.mem_iff_getElem.2 ⟨j, by simp; omega, by simp⟩) l[k] (by simp) e⟩
  · rintro ⟨a, b⟩
    refine ⟨a, by simp, fun x hx y hy e => ?_⟩
    simp at hy; subst hy
    obtain ⟨j, hj, rfl⟩ := List.mem_iff_getElem.1 hx
    simp at hj
    exact b j (by omega) (by simpa using e)
attribute [local irreducible] Quiet QStep J At FnX Fn FnP Repl Split Has Post Back GoZ
theorem rName_c (s : Bytes) (hs : s.length ≤ 4611686018427387904) : FnP Tryz.prog 53 [VStr s] (VBool (namedB s)) := by
  refine FnP_intro (by kernel_rfl) Tryz.func53 rfl Tryz.ntmps53 rfl (fun e => ?_)
  refine JSR ?_
  refine JQ (Q_assign At.bool) rfl ?_
  refine JNSSR ?_
  refine JM rfl rfl ?_
  refine JQ (Q_eqls (.tmp rfl) At.str) rfl ?_
  refine JM rfl rfl ?_
  refine J_qstep (QG rfl rfl rfl rfl rfl opt_bool (fun hg => Q_move (.tmp rfl))) rfl rfl ?_
  refine J_qstep (QG rfl rfl rfl rfl rfl opt_bool (fun hg => (by have hg0 := hg; simp only [BS, ne_eq] at hg0; exact Q_lens Tryz.underlying9 rfl (At.opt rfl (by first | exact hg | (simp only [BS, ne_eq] at hg ⊢; first | exact hg | simp_all)))))) rfl rfl ?_
  refine J_qstep (QG rfl rfl rfl rfl rfl opt_bool (fun hg => (by have hg0 := hg; simp only [BS, ne_eq] at hg0; exact Q_gtr (At.opt rfl (by first | exact hg | (simp only [BS, ne_eq] at hg ⊢; first | exact hg | simp_all))) At.int))) rfl rfl ?_
  refine JQ (Q_orB (.tmp rfl) (fun hb => At.opt rfl (by simp only [BS, ne_eq] at hb ⊢; first | exact hb | simp_all))) rfl ?_
  refine JM rfl rfl ?_
  refine J_qstep (QG rfl rfl rfl rfl rfl opt_bool (fun hg => Q_move (.tmp rfl))) rfl rfl ?_
  refine J_qstep (QG rfl rfl rfl rfl rfl opt_bool (fun hg => (by have hg0 := hg; simp only [BS, ne_eq] at hg0; exact Q_eqls (At.opt rfl (by first | exact hg | (simp only [BS, ne_eq] at hg ⊢; first | exact hg | simp_all))) At.str))) rfl rfl ?_
  refine JQ (Q_orB (.tmp rfl) (fun hb => At.opt rfl (by simp only [BS, ne_eq] at hb ⊢; first | exact hb | simp_all))) rfl ?_
  refine JM rfl rfl ?_
  refine J_qstep (QG rfl rfl rfl rfl rfl opt_bool (fun hg => Q_move (.tmp rfl))) rfl rfl ?_
  refine J_qstep (QG rfl rfl rfl rfl rfl opt_bool (fun hg => (by have hg0 := hg; simp only [BS, ne_eq] at hg0; exact Q_eqls (At.opt rfl (by first | exact hg | (simp only [BS, ne_eq] at hg ⊢; first | exact hg | simp_all))) At.str))) rfl rfl ?_
  refine JQ (Q_orB (.tmp rfl) (fun hb => At.opt rfl (by simp only [BS, ne_eq] at hb ⊢; first | exact hb | simp_all))) rfl ?_
  refine JM rfl rfl ?_
  refine J_qstep (QG rfl rfl rfl rfl rfl opt_bool (fun hg => Q_move (.tmp rfl))) rfl rfl ?_
  refine J_qstep (QG rfl rfl rfl rfl rfl opt_bool (fun hg => (by have hg0 := hg; simp only [BS, ne_eq] at hg0; exact Q_eqls (At.opt rfl (by first | exact hg | (simp only [BS, ne_eq] at hg ⊢; first | exact hg | simp_all))) At.str))) rfl rfl ?_
  refine JQ (Q_orB (.tmp rfl) (fun hb => At.opt rfl (by simp only [BS, ne_eq] at hb ⊢; first | exact hb | simp_all))) rfl ?_
  refine JN ?_
  refine J_cond (.tmp rfl) (fun h0 => ?_) (fun h0 => ?_)
  · try simp only [BS, ne_eq] at h0
    refine JSR ?_
    refine JQ (Q_assign At.bool) rfl ?_
    refine JN ?_
    refine J_retc ?_
    refine J_then_ret ?_
    exact J_ret1 rfl (ResAt.tmp rfl) () trivial Split.nil (imp_eq (vbool_eq (by symm; unfold namedB; by_cases hl : (s.length : Int) ≤ 100; (have : s = [] ∨ s = [46] ∨ s = [46, 46] ∨ s = [46, 103, 105, 116] := (by rcases h0 with (((a | a) | a) | a) | a; (exact .inl a); (omega); (exact .inr (.inl a)); (exact .inr (.inr (.inl a))); (exact .inr (.inr (.inr a)))); rcases this with a | a | a | a <;> subst a <;> rfl); (simp [hl]))))
  try simp only [BS, ne_eq] at h0
  refine J_skip ?_
  refine J_then_normal ?_
  refine J_seq ?_
  refine JSR ?_
  refine JQ (Q_assign At.int) rfl ?_
  refine JN ?_
  refine J_block ?_
  refine J_loopU (ι := Nat) (fun k => k ≤ s.length ∧ (47 : UInt8) ∉ s.take k ∧ (0 : UInt8) ∉ s.take k) (fun k => [(3, VInt .i64 (k : Nat))]) [(0, _)] (fun k => []) (fun k => s.length - k) (0) ⟨by omega, by simp, by simp⟩ ⟨fe rfl (by first | rfl | exact vint_eq (by first | omega | simp <;> omega) | exact vsl_eq (by simp) | exact vstr_eq (by simp)), trivial⟩ ⟨rfl, trivial⟩ Has.nil (fun k hq => ?_)
  obtain ⟨hk, ha, hb⟩ := hq
  refine J_seq ?_
  refine JSR ?_
  refine JM rfl rfl ?_
  refine JM rfl rfl ?_
  refine JQ (Q_lens Tryz.underlying9 rfl (.tmp rfl)) rfl ?_
  refine JQ (Q_lss (.tmp rfl) (.tmp rfl)) rfl ?_
  refine JN ?_
  refine J_cond (.tmp rfl) (fun h1 => ?_) (fun h1 => ?_)
  · try simp only [BS, ne_eq] at h1
    refine J_skip ?_
    refine J_then_normal ?_
    refine J_seq ?_
    refine J_block ?_
    refine JSR ?_
    refine JM rfl rfl ?_
    refine JM rfl rfl ?_
    refine JQ (by first | exact Q_idxsN Tryz.underlying9 (.tmp rfl) (.tmp rfl) (by first | omega | simp <;> omega) | exact Q_idxs Tryz.underlying9 (.tmp rfl) (.tmp rfl) (by first | omega | simp <;> omega) (by first | omega | simp <;> omega)) rfl ?_
    refine JQ (Q_eql8 (.tmp rfl) (At.k8 (z := 47) (by decide))) rfl ?_
    refine JM rfl rfl ?_
    refine J_qstep (QG rfl rfl rfl rfl rfl opt_bool (fun hg => Q_move (.tmp rfl))) rfl rfl ?_
    refine J_qstep (QG rfl rfl rfl rfl rfl opt_bool (fun hg => Q_move (.tmp rfl))) rfl rfl ?_
    refine J_qstep (QG rfl rfl rfl rfl rfl opt_bool (fun hg => (by have hg0 := hg; simp only [BS, ne_eq] at hg0; exact (by first | exact Q_idxsN Tryz.underlying9 (At.opt rfl (by first | exact hg | (simp only [BS, ne_eq] at hg ⊢; first | exact hg | simp_all))) (At.opt rfl (by first | exact hg | (simp only [BS, ne_eq] at hg ⊢; first | exact hg | simp_all))) (by first | omega | simp <;> omega) | exact Q_idxs Tryz.underlying9 (At.opt rfl (by first | exact hg | (simp only [BS, ne_eq] at hg ⊢; first | exact hg | simp_all))) (At.opt rfl (by first | exact hg | (simp only [BS, ne_eq] at hg ⊢; first | exact hg | simp_all))) (by first | omega | simp <;> omega) (by first | omega | simp <;> omega))))) rfl rfl ?_
    refine J_qstep (QG rfl rfl rfl rfl rfl opt_bool (fun hg => (by have hg0 := hg; simp only [BS, ne_eq] at hg0; exact Q_eql8 (At.opt rfl (by first | exact hg | (simp only [BS, ne_eq] at hg ⊢; first | exact hg | simp_all))) (At.k8 (z := 0) (by decide))))) rfl rfl ?_
    refine JQ (Q_orB (.tmp rfl) (fun hb => At.opt rfl (by simp only [BS, ne_eq] at hb ⊢; first | exact hb | simp_all))) rfl ?_
    refine JN ?_
    refine J_cond (.tmp rfl) (fun h2 => ?_) (fun h2 => ?_)
    · try simp only [BS, ne_eq] at h2
      have e0 : s.getD ((k : Nat) : Int).toNat 0 = s[k] := by rw [Int.toNat_natCast, List.getD_eq_getElem?_getD, List.getElem?_eq_getElem (by first | omega | simp <;> omega)]; rfl
      rw [e0] at h2
      refine JSR ?_
      refine JQ (Q_assign At.bool) rfl ?_
      refine JN ?_
      refine J_retc ?_
      refine J_blk_ret ?_
      refine J_then_ret ?_
      refine J_then_ret ?_
      refine J_blk_ret ?_
      refine J_then_ret ?_
      exact J_ret1 rfl (ResAt.tmp rfl) () trivial Split.nil (imp_eq (vbool_eq (by symm; have hm : (47 : UInt8) ∈ s ∨ (0 : UInt8) ∈ s := (by rcases h2 with a | a; (exact .inl (List.mem_iff_getElem.2 ⟨k, by omega, a⟩)); (exact .inr (List.mem_iff_getElem.2 ⟨k, by omega, a⟩))); unfold namedB; rcases hm with a | a <;> simp [a])))
    try simp only [BS, ne_eq] at h2
    have e0 : s.getD ((k : Nat) : Int).toNat 0 = s[k] := by rw [Int.toNat_natCast, List.getD_eq_getElem?_getD, List.getElem?_eq_getElem (by first | omega | simp <;> omega)]; rfl
    rw [e0] at h2
    refine J_skip ?_
    refine J_blk_normal ?_
    refine J_then_normal ?_
    refine J_region ?_
    refine JM rfl rfl ?_
    refine JQ (Q_addi (.tmp rfl) At.int (by first | omega | simp <;> omega) (by first | omega | simp <;> omega)) rfl ?_
    refine JA rfl rfl ?_
    refine JN ?_
    refine J_back (k + 1) ?_ ?_ ?_ ?_
    · exact ⟨⟨by omega, (take_sB (by first | omega | simp <;> omega) _).2 ⟨ha, h2.1⟩, (take_sB (by first | omega | simp <;> omega) _).2 ⟨hb, h2.2⟩⟩, by omega⟩
    · exact ⟨fe rfl (by first | rfl | exact vint_eq (by first | omega | simp <;> omega) | exact vsl_eq (by simp) | exact vstr_eq (by simp)), trivial⟩
    · exact ⟨rfl, trivial⟩
    · exact Has.nil
  try simp only [BS, ne_eq] at h1
  refine J_exit ?_
  refine J_then_exit ?_
  refine J_then_exit ?_
  refine J_blk_out ?_
  refine J_then_normal ?_
  refine JSR ?_
  refine JQ (Q_assign At.bool) rfl ?_
  refine JN ?_
  refine J_retc ?_
  obtain rfl : k = s.length := (by first | omega | simp <;> omega)
  rw [List.take_length] at ha hb
  exact J_ret1 rfl (ResAt.tmp rfl) () trivial Split.nil (imp_eq (vbool_eq (by symm; unfold namedB; obtain ⟨⟨⟨⟨a, b⟩, c⟩, d⟩, f⟩ := h0; simp [a, c, d, f, ha, hb]; omega)))
theorem rText_c (s : Bytes) (most : Int) (hs : s.length ≤ 4611686018427387904) : FnP Tryz.prog 94 [VStr s, VInt .i64 most] (VBool (textB s most)) := by
  refine FnP_intro (by kernel_rfl) Tryz.func94 rfl Tryz.ntmps94 rfl (fun e => ?_)
  refine JSR ?_
  refine JQ (Q_assign At.bool) rfl ?_
  refine JNSSR ?_
  refine JM rfl rfl ?_
  refine JQ (Q_eqls (.tmp rfl) At.str) rfl ?_
  refine JM rfl rfl ?_
  refine J_qstep (QG rfl rfl rfl rfl rfl opt_bool (fun hg => Q_move (.tmp rfl))) rfl rfl ?_
  refine J_qstep (QG rfl rfl rfl rfl rfl opt_bool (fun hg => (by have hg0 := hg; simp only [BS, ne_eq] at hg0; exact Q_lens Tryz.underlying9 rfl (At.opt rfl (by first | exact hg | (simp only [BS, ne_eq] at hg ⊢; first | exact hg | simp_all)))))) rfl rfl ?_
  refine J_qstep (QG rfl rfl rfl rfl rfl opt_bool (fun hg => Q_move (.tmp rfl))) rfl rfl ?_
  refine J_qstep (QG rfl rfl rfl rfl rfl opt_bool (fun hg => (by have hg0 := hg; simp only [BS, ne_eq] at hg0; exact Q_gtr (At.opt rfl (by first | exact hg | (simp only [BS, ne_eq] at hg ⊢; first | exact hg | simp_all))) (At.opt rfl (by first | exact hg | (simp only [BS, ne_eq] at hg ⊢; first | exact hg | simp_all)))))) rfl rfl ?_
  refine JQ (Q_orB (.tmp rfl) (fun hb => At.opt rfl (by simp only [BS, ne_eq] at hb ⊢; first | exact hb | simp_all))) rfl ?_
  refine JN ?_
  refine J_cond (.tmp rfl) (fun h0 => ?_) (fun h0 => ?_)
  · try simp only [BS, ne_eq] at h0
    refine JSR ?_
    refine JQ (Q_assign At.bool) rfl ?_
    refine JN ?_
    refine J_retc ?_
    refine J_then_ret ?_
    exact J_ret1 rfl (ResAt.tmp rfl) () trivial Split.nil (imp_eq (vbool_eq (by symm; unfold textB; rcases h0 with a | a; (simp [a]); (have : ¬ (s.length : Int) ≤ most := (by first | omega | simp <;> omega); simp [this]))))
  try simp only [BS, ne_eq] at h0
  refine J_skip ?_
  refine J_then_normal ?_
  refine J_seq ?_
  refine JSR ?_
  refine JQ (Q_assign At.int) rfl ?_
  refine JN ?_
  refine J_block ?_
  refine J_loopU (ι := Nat) (fun k => k ≤ s.length ∧ (0 : UInt8) ∉ s.take k ∧ (10 : UInt8) ∉ s.take k) (fun k => [(5, VInt .i64 (k : Nat))]) [(0, _)] (fun k => []) (fun k => s.length - k) (0) ⟨by omega, by simp, by simp⟩ ⟨fe rfl (by first | rfl | exact vint_eq (by first | omega | simp <;> omega) | exact vsl_eq (by simp) | exact vstr_eq (by simp)), trivial⟩ ⟨rfl, trivial⟩ Has.nil (fun k hq => ?_)
  obtain ⟨hk, ha, hb⟩ := hq
  refine J_seq ?_
  refine JSR ?_
  refine JM rfl rfl ?_
  refine JM rfl rfl ?_
  refine JQ (Q_lens Tryz.underlying9 rfl (.tmp rfl)) rfl ?_
  refine JQ (Q_lss (.tmp rfl) (.tmp rfl)) rfl ?_
  refine JN ?_
  refine J_cond (.tmp rfl) (fun h1 => ?_) (fun h1 => ?_)
  · try simp only [BS, ne_eq] at h1
    refine J_skip ?_
    refine J_then_normal ?_
    refine J_seq ?_
    refine J_block ?_
    refine JSR ?_
    refine JM rfl rfl ?_
    refine JM rfl rfl ?_
    refine JQ (by first | exact Q_idxsN Tryz.underlying9 (.tmp rfl) (.tmp rfl) (by first | omega | simp <;> omega) | exact Q_idxs Tryz.underlying9 (.tmp rfl) (.tmp rfl) (by first | omega | simp <;> omega) (by first | omega | simp <;> omega)) rfl ?_
    refine JQ (Q_eql8 (.tmp rfl) (At.k8 (z := 0) (by decide))) rfl ?_
    refine JM rfl rfl ?_
    refine J_qstep (QG rfl rfl rfl rfl rfl opt_bool (fun hg => Q_move (.tmp rfl))) rfl rfl ?_
    refine J_qstep (QG rfl rfl rfl rfl rfl opt_bool (fun hg => Q_move (.tmp rfl))) rfl rfl ?_
    refine J_qstep (QG rfl rfl rfl rfl rfl opt_bool (fun hg => (by have hg0 := hg; simp only [BS, ne_eq] at hg0; exact (by first | exact Q_idxsN Tryz.underlying9 (At.opt rfl (by first | exact hg | (simp only [BS, ne_eq] at hg ⊢; first | exact hg | simp_all))) (At.opt rfl (by first | exact hg | (simp only [BS, ne_eq] at hg ⊢; first | exact hg | simp_all))) (by first | omega | simp <;> omega) | exact Q_idxs Tryz.underlying9 (At.opt rfl (by first | exact hg | (simp only [BS, ne_eq] at hg ⊢; first | exact hg | simp_all))) (At.opt rfl (by first | exact hg | (simp only [BS, ne_eq] at hg ⊢; first | exact hg | simp_all))) (by first | omega | simp <;> omega) (by first | omega | simp <;> omega))))) rfl rfl ?_
    refine J_qstep (QG rfl rfl rfl rfl rfl opt_bool (fun hg => (by have hg0 := hg; simp only [BS, ne_eq] at hg0; exact Q_eql8 (At.opt rfl (by first | exact hg | (simp only [BS, ne_eq] at hg ⊢; first | exact hg | simp_all))) (At.k8 (z := 10) (by decide))))) rfl rfl ?_
    refine JQ (Q_orB (.tmp rfl) (fun hb => At.opt rfl (by simp only [BS, ne_eq] at hb ⊢; first | exact hb | simp_all))) rfl ?_
    refine JN ?_
    refine J_cond (.tmp rfl) (fun h2 => ?_) (fun h2 => ?_)
    · try simp only [BS, ne_eq] at h2
      have e0 : s.getD ((k : Nat) : Int).toNat 0 = s[k] := by rw [Int.toNat_natCast, List.getD_eq_getElem?_getD, List.getElem?_eq_getElem (by first | omega | simp <;> omega)]; rfl
      rw [e0] at h2
      refine JSR ?_
      refine JQ (Q_assign At.bool) rfl ?_
      refine JN ?_
      refine J_retc ?_
      refine J_blk_ret ?_
      refine J_then_ret ?_
      refine J_then_ret ?_
      refine J_blk_ret ?_
      refine J_then_ret ?_
      exact J_ret1 rfl (ResAt.tmp rfl) () trivial Split.nil (imp_eq (vbool_eq (by symm; have hm : (0 : UInt8) ∈ s ∨ (10 : UInt8) ∈ s := (by rcases h2 with a | a; (exact .inl (List.mem_iff_getElem.2 ⟨k, by omega, a⟩)); (exact .inr (List.mem_iff_getElem.2 ⟨k, by omega, a⟩))); unfold textB; rcases hm with a | a <;> simp [a])))
    try simp only [BS, ne_eq] at h2
    have e0 : s.getD ((k : Nat) : Int).toNat 0 = s[k] := by rw [Int.toNat_natCast, List.getD_eq_getElem?_getD, List.getElem?_eq_getElem (by first | omega | simp <;> omega)]; rfl
    rw [e0] at h2
    refine J_skip ?_
    refine J_blk_normal ?_
    refine J_then_normal ?_
    refine J_region ?_
    refine JM rfl rfl ?_
    refine JQ (Q_addi (.tmp rfl) At.int (by first | omega | simp <;> omega) (by first | omega | simp <;> omega)) rfl ?_
    refine JA rfl rfl ?_
    refine JN ?_
    refine J_back (k + 1) ?_ ?_ ?_ ?_
    · exact ⟨⟨by omega, (take_sB (by first | omega | simp <;> omega) _).2 ⟨ha, h2.1⟩, (take_sB (by first | omega | simp <;> omega) _).2 ⟨hb, h2.2⟩⟩, by omega⟩
    · exact ⟨fe rfl (by first | rfl | exact vint_eq (by first | omega | simp <;> omega) | exact vsl_eq (by simp) | exact vstr_eq (by simp)), trivial⟩
    · exact ⟨rfl, trivial⟩
    · exact Has.nil
  try simp only [BS, ne_eq] at h1
  refine J_exit ?_
  refine J_then_exit ?_
  refine J_then_exit ?_
  refine J_blk_out ?_
  refine J_then_normal ?_
  refine JSR ?_
  refine JQ (Q_assign At.bool) rfl ?_
  refine JN ?_
  refine J_retc ?_
  obtain rfl : k = s.length := (by first | omega | simp <;> omega)
  rw [List.take_length] at ha hb
  exact J_ret1 rfl (ResAt.tmp rfl) () trivial Split.nil (imp_eq (vbool_eq (by symm; unfold textB; obtain ⟨a, b⟩ := h0; simp [a, ha, hb]; omega)))
theorem rTwice_c (l : List Oid) : FnP Tryz.prog 93 [Sl l] (VBool (twiceB l)) := by
  refine FnP_intro (by kernel_rfl) Tryz.func93 rfl Tryz.ntmps93 rfl (fun e => ?_)
  refine J_lenLe (t := 0) rfl (fun hl0 => ?_)
  refine JSR ?_
  refine JQ (Q_assign At.bool) rfl ?_
  refine JNSSR ?_
  refine JQ (Q_assign At.int) rfl ?_
  refine JN ?_
  refine J_block ?_
  refine J_loopU (ι := Nat) (fun k => k ≤ l.length ∧ (l.take k).Nodup) (fun k => [(3, VInt .i64 (k : Nat))]) [(0, _)] (fun k => []) (fun k => l.length - k) (0) ⟨by omega, by simp⟩ ⟨fe rfl (by first | rfl | exact vint_eq (by first | omega | simp <;> omega) | exact vsl_eq (by simp) | exact vstr_eq (by simp)), trivial⟩ ⟨rfl, trivial⟩ Has.nil (fun k hq => ?_)
  obtain ⟨hk, hn⟩ := hq
  refine J_seq ?_
  refine JSR ?_
  refine JM rfl rfl ?_
  refine JM rfl rfl ?_
  refine JQ (Q_len Tryz.underlying44 rfl (.tmp rfl)) rfl ?_
  refine JQ (Q_lss (.tmp rfl) (.tmp rfl)) rfl ?_
  refine JN ?_
  refine J_cond (.tmp rfl) (fun h0 => ?_) (fun h0 => ?_)
  · try simp only [BS, ne_eq] at h0
    refine J_skip ?_
    refine J_then_normal ?_
    refine J_seq ?_
    refine J_block ?_
    refine JSR ?_
    refine JQ (Q_assign At.int) rfl ?_
    refine JN ?_
    refine J_block ?_
    refine J_loopU (ι := Nat) (fun i => i ≤ k ∧ ∀ j (_ : j < i) (hj : j < k), l[j] ≠ l[k]) (fun i => [(4, VInt .i64 (i : Nat))]) [(0, _), (3, _)] (fun i => []) (fun i => k - i) (0) ⟨by omega, by intros; omega⟩ ⟨fe rfl (by first | rfl | exact vint_eq (by first | omega | simp <;> omega) | exact vsl_eq (by simp) | exact vstr_eq (by simp)), trivial⟩ ⟨rfl, rfl, trivial⟩ Has.nil (fun i hq_1 => ?_)
    obtain ⟨hi, hij⟩ := hq_1
    refine J_seq ?_
    refine JSR ?_
    refine JM rfl rfl ?_
    refine JM rfl rfl ?_
    refine JQ (Q_lss (.tmp rfl) (.tmp rfl)) rfl ?_
    refine JN ?_
    refine J_cond (.tmp rfl) (fun h1 => ?_) (fun h1 => ?_)
    · try simp only [BS, ne_eq] at h1
      refine J_skip ?_
      refine J_then_normal ?_
      refine J_seq ?_
      refine J_block ?_
      refine J_seq ?_
      refine J_draw mix 9 [16, 17, 18, 19, 20, 21, 22, 23, 24] [_, _, _, _, _, _, _, _, _] rfl rfl (by kernel_rfl) (by kernel_rfl) (by kernel_rfl) (by kernel_rfl) (by kernel_rfl) ⟨QS (Q_move (.tmp rfl)) rfl, QS (Q_move (.tmp rfl)) rfl, QS ((by first | exact Q_idxAddrN Tryz.underlying44 T37.size (.tmp rfl) (.tmp rfl) (by first | omega | simp <;> omega) | exact Q_idxAddr Tryz.underlying44 T37.size (.tmp rfl) (.tmp rfl) (by first | omega | simp <;> omega) (by first | omega | simp <;> omega))) rfl, QS (Q_load (.tmp rfl) T37) rfl, QS (Q_move (.tmp rfl)) rfl, QS (Q_move (.tmp rfl)) rfl, QS ((by first | exact Q_idxAddrN Tryz.underlying44 T37.size (.tmp rfl) (.tmp rfl) (by first | omega | simp <;> omega) | exact Q_idxAddr Tryz.underlying44 T37.size (.tmp rfl) (.tmp rfl) (by first | omega | simp <;> omega) (by first | omega | simp <;> omega))) rfl, QS (Q_load (.tmp rfl) T37) rfl, QS (Q_eqlA Tryz.underlying37 Tryz.underlying5 T5.size (by kernel_rfl) (.tmp rfl) (.tmp rfl)) rfl, trivial⟩ ?_
      refine JN ?_
      refine J_cond (.tmp rfl) (fun h2 => ?_) (fun h2 => ?_)
      · try simp only [BS, ne_eq] at h2
        refine JSR ?_
        refine JQ (Q_assign At.bool) rfl ?_
        refine JN ?_
        refine J_retc ?_
        refine J_blk_ret ?_
        refine J_then_ret ?_
        refine J_then_ret ?_
        refine J_blk_ret ?_
        refine J_blk_ret ?_
        refine J_then_ret ?_
        refine J_then_ret ?_
        refine J_blk_ret ?_
        refine J_then_ret ?_
        exact J_ret1 rfl (ResAt.tmp rfl) () trivial Split.nil (imp_eq (vbool_eq (by symm; unfold twiceB; rw [Bool.not_eq_true', decide_eq_false_iff_not]; intro hd; have := List.pairwise_iff_getElem.1 hd i k (by first | omega | simp <;> omega) (by first | omega | simp <;> omega) (by first | omega | simp <;> omega); exact this h2.symm)))
      try simp only [BS, ne_eq] at h2
      refine J_skip ?_
      refine J_blk_normal ?_
      refine J_then_normal ?_
      refine J_region ?_
      refine JM rfl rfl ?_
      refine JQ (Q_addi (.tmp rfl) At.int (by first | omega | simp <;> omega) (by first | omega | simp <;> omega)) rfl ?_
      refine JA rfl rfl ?_
      refine JN ?_
      refine J_back (i + 1) ?_ ?_ ?_ ?_
      · exact ⟨⟨by omega, fun j hj hjk => by by_cases e : j = i; (subst e; exact fun q => h2 q.symm); exact hij j (by first | omega | simp <;> omega) hjk⟩, by omega⟩
      · exact ⟨fe rfl (by first | rfl | exact vint_eq (by first | omega | simp <;> omega) | exact vsl_eq (by simp) | exact vstr_eq (by simp)), trivial⟩
      · exact ⟨rfl, rfl, trivial⟩
      · exact Has.nil
    try simp only [BS, ne_eq] at h1
    refine J_exit ?_
    refine J_then_exit ?_
    refine J_then_exit ?_
    refine J_blk_out ?_
    refine J_blk_normal ?_
    refine J_then_normal ?_
    refine J_region ?_
    refine JM rfl rfl ?_
    refine JQ (Q_addi (.tmp rfl) At.int (by first | omega | simp <;> omega) (by first | omega | simp <;> omega)) rfl ?_
    refine JA rfl rfl ?_
    refine JN ?_
    refine J_back (k + 1) ?_ ?_ ?_ ?_
    · exact ⟨⟨by omega, (take_nodup_s (by first | omega | simp <;> omega)).2 ⟨hn, fun j hj => hij j (by first | omega | simp <;> omega) hj⟩⟩, by omega⟩
    · exact ⟨fe rfl (by first | rfl | exact vint_eq (by first | omega | simp <;> omega) | exact vsl_eq (by simp) | exact vstr_eq (by simp)), trivial⟩
    · exact ⟨rfl, trivial⟩
    · exact Has.nil
  try simp only [BS, ne_eq] at h0
  refine J_exit ?_
  refine J_then_exit ?_
  refine J_then_exit ?_
  refine J_blk_out ?_
  refine J_then_normal ?_
  refine JSR ?_
  refine JQ (Q_assign At.bool) rfl ?_
  refine JN ?_
  refine J_retc ?_
  obtain rfl : k = l.length := (by first | omega | simp <;> omega)
  rw [List.take_length] at hn
  exact J_ret1 rfl (ResAt.tmp rfl) () trivial Split.nil (imp_eq (vbool_eq (by symm; unfold twiceB; simp [hn])))
end Go.Sep
namespace Go.Sep
open Go Go.Proofs
open Enc (V)
theorem str_ext {a b : Str} (h : a.l = b.l) : a = b := by cases a; cases b; simp at h; subst h; rfl
def saidE (e : Ent) : Bs := modeB e.1 ++ [32] ++ e.2.1.l ++ [0] ++ e.2.2.l
def saidB (l : List Ent) : Bs := l.flatMap saidE
theorem saidB_s {l : List Ent} {k : Nat} (h : k < l.length) : saidB (l.take (k + 1)) = saidB (l.take k) ++ saidE l[k] := by
  unfold saidB; rw [List.take_succ_eq_append_getElem h, List.flatMap_append]; simp
theorem modeB_len (m : Int) : (modeB m).length ≤ 6 := by unfold modeB; repeat (first | split | simp)
def encOk (e : Ent) : Bool := !decide (modeB e.1 = []) && namedB e.2.1.l
def encTreeB (l : List Ent) : Bs × Int := if 512 < l.length then ([], 1) else if ¬ (∀ e ∈ l, encOk e = true) then ([], 1) else if orderedB l = false then ([], 2) else if 16384 < (saidB l).length then ([], 5) else (saidB l, 0)
theorem namesE_mem {l : List Ent} {k : Nat} (h : k < l.length) : (l[k].2.1 ∈ namesE (l.take k)) ↔ ∃ j, ∃ hj : j < k, l[j].2.1 = l[k].2.1 := by
  unfold namesE
  rw [List.mem_map]
  constructor
  · rintro ⟨e, he, h2⟩
    obtain ⟨j, hj, rfl⟩ := List.mem_iff_getElem.1 he
    simp at hj
    exact ⟨j, by omega, by simpa using h2⟩
  · rintro ⟨j, hj, h2⟩
    exact ⟨l[j], List.mem_iff_getElem.2 ⟨j, by simp; omega, by simp⟩, h2⟩
attribute [local irreducible] Quiet QStep J At FnX Fn FnP Repl Split Has Post Back GoZ
theorem rRising_c (l : List Ent) (hn : ∀ e ∈ l, e.2.1.l.length ≤ 1048576) : FnP Tryz.prog 54 [Sl l] (VBool (orderedB l)) := by
  have hnk : ∀ k (h : k < l.length), (l[k]).2.1.l.length ≤ 1048576 := fun k h => hn _ (List.getElem_mem h)
  have hnz : ∀ i, (l.getD i GoZero.z).2.1.l.length ≤ 1048576 := fun i => by
    by_cases h : i < l.length
    · have : l.getD i GoZero.z = l[i] := by simp [List.getD_eq_getElem?_getD, h]
      rw [this]; exact hnk i h
    · have : l.getD i GoZero.z = (GoZero.z : Ent) := by simp [List.getD_eq_getElem?_getD, Nat.not_lt.1 h]
      rw [this]; exact Nat.zero_le _
  refine FnP_intro (by kernel_rfl) Tryz.func54 rfl Tryz.ntmps54 rfl (fun e => ?_)
  refine J_lenLe (t := 0) rfl (fun hl0 => ?_)
  refine JSR ?_
  refine JQ (Q_assign At.bool) rfl ?_
  refine JNSSR ?_
  refine JQ (Q_assign At.int) rfl ?_
  refine JN ?_
  refine J_block ?_
  refine J_loopU (ι := Nat) (fun k => k ≤ l.length ∧ ∀ j, j < k → ordOK l j = true) (fun k => [(3, VInt .i64 (k : Nat))]) [(0, _)] (fun k => []) (fun k => l.length - k) (0) ⟨by omega, by intros; omega⟩ ⟨fe rfl (by first | rfl | exact vint_eq (by first | omega | simp <;> omega) | exact vsl_eq (by simp) | exact vstr_eq (by simp)), trivial⟩ ⟨rfl, trivial⟩ Has.nil (fun k hq => ?_)
  obtain ⟨hk, hall⟩ := hq
  refine J_seq ?_
  refine JSR ?_
  refine JM rfl rfl ?_
  refine JM rfl rfl ?_
  refine JQ (Q_len Tryz.underlying82 rfl (.tmp rfl)) rfl ?_
  refine JQ (Q_lss (.tmp rfl) (.tmp rfl)) rfl ?_
  refine JN ?_
  refine J_cond (.tmp rfl) (fun h0 => ?_) (fun h0 => ?_)
  · try simp only [BS, ne_eq] at h0
    refine J_skip ?_
    refine J_then_normal ?_
    refine J_seq ?_
    refine J_block ?_
    refine J_seq ?_
    refine J_seq ?_
    refine J_draw mix 15 [11, 12, 13, 14, 15, 16, 17, 18, 19, 20, 21, 22, 23, 24, 25] [_, _, _, _, _, _, _, _, _, _, _, _, _, _, _] rfl rfl (by kernel_rfl) (by kernel_rfl) (by kernel_rfl) (by kernel_rfl) (by kernel_rfl) ⟨QS (Q_move (.tmp rfl)) rfl, QS (Q_gtr (.tmp rfl) At.int) rfl, QS (Q_move (.tmp rfl)) rfl, QG rfl rfl rfl rfl rfl opt_bool (fun hg => Q_move (.tmp rfl)), QG rfl rfl rfl rfl rfl opt_bool (fun hg => Q_move (.tmp rfl)), QG rfl rfl rfl rfl rfl opt_bool (fun hg => (by have hg0 := hg; simp only [BS, ne_eq] at hg0; exact Q_subi (At.opt rfl (by first | exact hg | (simp only [BS, ne_eq] at hg ⊢; first | exact hg | simp_all))) At.int (by first | omega | simp <;> omega) (by first | omega | simp <;> omega))), QG rfl rfl rfl rfl rfl opt_bool (fun hg => (by have hg0 := hg; simp only [BS, ne_eq] at hg0; exact Q_idxAddrZ Tryz.underlying82 T81.size (At.opt rfl (by first | exact hg | (simp only [BS, ne_eq] at hg ⊢; first | exact hg | simp_all))) (At.opt rfl (by first | exact hg | (simp only [BS, ne_eq] at hg ⊢; first | exact hg | simp_all))) (by first | omega | simp <;> omega) (by first | omega | simp <;> omega))), QG rfl rfl rfl rfl rfl opt_bool (fun hg => (by have hg0 := hg; simp only [BS, ne_eq] at hg0; exact Q_load (At.opt rfl (by first | exact hg | (simp only [BS, ne_eq] at hg ⊢; first | exact hg | simp_all))) T81)), QG rfl rfl rfl rfl rfl opt_bool (fun hg => Q_move (.tmp rfl)), QG rfl rfl rfl rfl rfl opt_bool (fun hg => Q_move (.tmp rfl)), QG rfl rfl rfl rfl rfl opt_bool (fun hg => (by have hg0 := hg; simp only [BS, ne_eq] at hg0; exact Q_idxAddrZ Tryz.underlying82 T81.size (At.opt rfl (by first | exact hg | (simp only [BS, ne_eq] at hg ⊢; first | exact hg | simp_all))) (At.opt rfl (by first | exact hg | (simp only [BS, ne_eq] at hg ⊢; first | exact hg | simp_all))) (by first | omega | simp <;> omega) (by first | omega | simp <;> omega))), QG rfl rfl rfl rfl rfl opt_bool (fun hg => (by have hg0 := hg; simp only [BS, ne_eq] at hg0; exact Q_load (At.opt rfl (by first | exact hg | (simp only [BS, ne_eq] at hg ⊢; first | exact hg | simp_all))) T81)), QG rfl rfl rfl rfl rfl opt_bool (fun hg => (by have hg0 := hg; simp only [BS, ne_eq] at hg0; exact Q_call (rOrder_c _ _ (hnz _) (hnz _)) ⟨(At.opt rfl (by first | exact hg | (simp only [BS, ne_eq] at hg ⊢; first | exact hg | simp_all))), (At.opt rfl (by first | exact hg | (simp only [BS, ne_eq] at hg ⊢; first | exact hg | simp_all))), trivial⟩)), QG rfl rfl rfl rfl rfl opt_bool (fun hg => (by have hg0 := hg; simp only [BS, ne_eq] at hg0; exact Q_geq (At.opt rfl (by first | exact hg | (simp only [BS, ne_eq] at hg ⊢; first | exact hg | simp_all))) At.int)), QS (Q_andB (.tmp rfl) (fun hb => At.opt rfl (by simp only [BS, ne_eq] at hb ⊢; first | exact hb | simp_all))) rfl, trivial⟩ ?_
    refine JN ?_
    refine J_cond (.tmp rfl) (fun h1 => ?_) (fun h1 => ?_)
    · try simp only [BS, ne_eq] at h1
      refine JSR ?_
      refine JQ (Q_assign At.bool) rfl ?_
      refine JN ?_
      refine J_retc ?_
      refine J_then_ret ?_
      refine J_blk_ret ?_
      refine J_then_ret ?_
      refine J_then_ret ?_
      refine J_blk_ret ?_
      refine J_then_ret ?_
      have hgz : l.getD ((k : Nat) : Int).toNat GoZero.z = l[k] := by simp [List.getD_eq_getElem?_getD, show k < l.length by omega]
      have ek : ((k : Int) - 1).toNat = k - 1 := (by first | omega | simp <;> omega)
      rw [hgz, ek] at h1
      have hok : ordOK l k = false := by rw [ordOK_eq l k (by first | omega | simp <;> omega)]; rw [decide_eq_false (show ¬ k = 0 by omega), decide_eq_false (show ¬ cmpS (keyE (l.getD (k - 1) GoZero.z)) (keyE l[k]) < 0 by omega)]; simp
      exact J_ret1 rfl (ResAt.tmp rfl) () trivial Split.nil (imp_eq (vbool_eq (by symm; unfold orderedB; rw [List.all_eq_false]; exact ⟨k, by rw [List.mem_range]; omega, by rw [hok]; simp⟩)))
    try simp only [BS, ne_eq] at h1
    refine J_skip ?_
    refine J_then_normal ?_
    refine JSR ?_
    refine JQ (Q_assign At.int) rfl ?_
    refine JN ?_
    refine J_block ?_
    refine J_loopU (ι := Nat) (fun i => i ≤ k ∧ ∀ j (_ : j < i) (hj : j < k), l[j].2.1 ≠ l[k].2.1) (fun i => [(4, VInt .i64 (i : Nat))]) [(0, _), (3, _)] (fun i => []) (fun i => k - i) (0) ⟨by omega, by intros; omega⟩ ⟨fe rfl (by first | rfl | exact vint_eq (by first | omega | simp <;> omega) | exact vsl_eq (by simp) | exact vstr_eq (by simp)), trivial⟩ ⟨rfl, rfl, trivial⟩ Has.nil (fun i hq_1 => ?_)
    obtain ⟨hi, hij⟩ := hq_1
    refine J_seq ?_
    refine JSR ?_
    refine JM rfl rfl ?_
    refine JM rfl rfl ?_
    refine JQ (Q_lss (.tmp rfl) (.tmp rfl)) rfl ?_
    refine JN ?_
    refine J_cond (.tmp rfl) (fun h2 => ?_) (fun h2 => ?_)
    · try simp only [BS, ne_eq] at h2
      refine J_skip ?_
      refine J_then_normal ?_
      refine J_seq ?_
      refine J_block ?_
      refine J_seq ?_
      refine J_draw mix 11 [31, 32, 33, 34, 35, 36, 37, 38, 39, 40, 41] [_, _, _, _, _, _, _, _, _, _, _] rfl rfl (by kernel_rfl) (by kernel_rfl) (by kernel_rfl) (by kernel_rfl) (by kernel_rfl) ⟨QS (Q_move (.tmp rfl)) rfl, QS (Q_move (.tmp rfl)) rfl, QS ((by first | exact Q_idxAddrN Tryz.underlying82 T81.size (.tmp rfl) (.tmp rfl) (by first | omega | simp <;> omega) | exact Q_idxAddr Tryz.underlying82 T81.size (.tmp rfl) (.tmp rfl) (by first | omega | simp <;> omega) (by first | omega | simp <;> omega))) rfl, QS (Q_fieldAddrI F81_1 (by decide) (Lens.snd (Lens.fst Lens.id) (by first | rfl | (simp only [Enc.size, Nat.zero_add, Nat.mul_one, Nat.add_zero]; omega))) (.tmp rfl)) rfl, QS (Q_strOf (Q_load (.tmp rfl) T9) (by (try dsimp only) <;> rfl)) rfl, QS (Q_move (.tmp rfl)) rfl, QS (Q_move (.tmp rfl)) rfl, QS ((by first | exact Q_idxAddrN Tryz.underlying82 T81.size (.tmp rfl) (.tmp rfl) (by first | omega | simp <;> omega) | exact Q_idxAddr Tryz.underlying82 T81.size (.tmp rfl) (.tmp rfl) (by first | omega | simp <;> omega) (by first | omega | simp <;> omega))) rfl, QS (Q_fieldAddrI F81_1 (by decide) (Lens.snd (Lens.fst Lens.id) (by first | rfl | (simp only [Enc.size, Nat.zero_add, Nat.mul_one, Nat.add_zero]; omega))) (.tmp rfl)) rfl, QS (Q_strOf (Q_load (.tmp rfl) T9) (by (try dsimp only) <;> rfl)) rfl, QS (Q_eqls (.tmp rfl) (.tmp rfl)) rfl, trivial⟩ ?_
      refine JN ?_
      refine J_cond (.tmp rfl) (fun h3 => ?_) (fun h3 => ?_)
      · try simp only [BS, ne_eq] at h3
        refine JSR ?_
        refine JQ (Q_assign At.bool) rfl ?_
        refine JN ?_
        refine J_retc ?_
        refine J_blk_ret ?_
        refine J_then_ret ?_
        refine J_then_ret ?_
        refine J_blk_ret ?_
        refine J_blk_ret ?_
        refine J_then_ret ?_
        refine J_then_ret ?_
        refine J_blk_ret ?_
        refine J_then_ret ?_
        have hok : ordOK l k = false := by rw [ordOK_eq l k (by first | omega | simp <;> omega), decide_eq_true ((namesE_mem (by first | omega | simp <;> omega)).2 ⟨i, by omega, str_ext h3⟩)]; rfl
        exact J_ret1 rfl (ResAt.tmp rfl) () trivial Split.nil (imp_eq (vbool_eq (by symm; unfold orderedB; rw [List.all_eq_false]; exact ⟨k, by rw [List.mem_range]; omega, by rw [hok]; simp⟩)))
      try simp only [BS, ne_eq] at h3
      refine J_skip ?_
      refine J_blk_normal ?_
      refine J_then_normal ?_
      refine J_region ?_
      refine JM rfl rfl ?_
      refine JQ (Q_addi (.tmp rfl) At.int (by first | omega | simp <;> omega) (by first | omega | simp <;> omega)) rfl ?_
      refine JA rfl rfl ?_
      refine JN ?_
      refine J_back (i + 1) ?_ ?_ ?_ ?_
      · exact ⟨⟨by omega, fun j hj hjk => by by_cases e : j = i; (subst e; exact fun q => h3 (congrArg Str.l q)); exact hij j (by first | omega | simp <;> omega) hjk⟩, by omega⟩
      · exact ⟨fe rfl (by first | rfl | exact vint_eq (by first | omega | simp <;> omega) | exact vsl_eq (by simp) | exact vstr_eq (by simp)), trivial⟩
      · exact ⟨rfl, rfl, trivial⟩
      · exact Has.nil
    try simp only [BS, ne_eq] at h2
    refine J_exit ?_
    refine J_then_exit ?_
    refine J_then_exit ?_
    refine J_blk_out ?_
    refine J_blk_normal ?_
    refine J_then_normal ?_
    refine J_region ?_
    refine JM rfl rfl ?_
    refine JQ (Q_addi (.tmp rfl) At.int (by first | omega | simp <;> omega) (by first | omega | simp <;> omega)) rfl ?_
    refine JA rfl rfl ?_
    refine JN ?_
    have hgz : l.getD ((k : Nat) : Int).toNat GoZero.z = l[k] := by simp [List.getD_eq_getElem?_getD, show k < l.length by omega]
    have ek : ((k : Int) - 1).toNat = k - 1 := (by first | omega | simp <;> omega)
    rw [hgz, ek] at h1
    have hok : ordOK l k = true := by rw [ordOK_eq l k (by first | omega | simp <;> omega), decide_eq_false (show ¬ l[k].2.1 ∈ namesE (l.take k) by rw [namesE_mem (by first | omega | simp <;> omega)]; rintro ⟨j, hj, hj2⟩; exact hij j (by first | omega | simp <;> omega) hj hj2)]; rcases h1 with h1 | h1; (rw [decide_eq_true (show k = 0 by omega)]; simp); (rw [decide_eq_true (show cmpS (keyE (l.getD (k - 1) GoZero.z)) (keyE l[k]) < 0 by omega)]; simp)
    refine J_back (k + 1) ?_ ?_ ?_ ?_
    · exact ⟨⟨by omega, by intro j hj; by_cases e : j = k; (subst e; exact hok); exact hall j (by first | omega | simp <;> omega)⟩, by omega⟩
    · exact ⟨fe rfl (by first | rfl | exact vint_eq (by first | omega | simp <;> omega) | exact vsl_eq (by simp) | exact vstr_eq (by simp)), trivial⟩
    · exact ⟨rfl, trivial⟩
    · exact Has.nil
  try simp only [BS, ne_eq] at h0
  refine J_exit ?_
  refine J_then_exit ?_
  refine J_then_exit ?_
  refine J_blk_out ?_
  refine J_then_normal ?_
  refine JSR ?_
  refine JQ (Q_assign At.bool) rfl ?_
  refine JN ?_
  refine J_retc ?_
  exact J_ret1 rfl (ResAt.tmp rfl) () trivial Split.nil (imp_eq (vbool_eq (by symm; unfold orderedB; rw [List.all_eq_true]; intro j hj; rw [List.mem_range] at hj; exact hall j (by first | omega | simp <;> omega))))
theorem rSaid_c (l : List Ent) (hn : ∀ e ∈ l, e.2.1.l.length ≤ 1048576) (hl : l.length ≤ 1048576) : FnP Tryz.prog 55 [Sl l] (Sl (saidB l)) := by
  have hnk : ∀ k (h : k < l.length), (l[k]).2.1.l.length ≤ 1048576 := fun k h => hn _ (List.getElem_mem h)
  have hlen : ∀ k, k ≤ l.length → (saidB (l.take k)).length ≤ k * 1048700 := by
    intro k
    induction k with
    | zero => intro _; simp [saidB]
    | succ k ih =>
      intro hk
      have := ih (by omega)
      have h1 := hnk k (by omega)
      have h2 := modeB_len l[k].1
      have h3 := l[k].2.2.h
      rw [saidB_s (by omega), List.length_append]
      unfold saidE
      simp
      omega
  refine FnP_intro (by kernel_rfl) Tryz.func55 rfl Tryz.ntmps55 rfl (fun e => ?_)
  refine JSR ?_
  refine JQ (Q_assign (At.nils (α := UInt8))) rfl ?_
  refine JNSR ?_
  refine JQ (Q_assign At.const) rfl ?_
  refine JNSSR ?_
  refine JQ (Q_assign At.int) rfl ?_
  refine JN ?_
  refine J_block ?_
  refine J_rowNil (el := 5) UInt8 ?_
  refine J_loopU (ι := Nat × Value) (fun q => match q with | (k, u) => k ≤ l.length) (fun q => match q with | (k, u) => [(4, VInt .i64 (k : Nat)), (3, Is u)]) [(0, _), (2, _)] (fun q => match q with | (k, u) => [RowR 5 u (saidB (l.take k))]) (fun q => match q with | (k, u) => l.length - k) ((0, .slice none 0 0)) (by first | omega | simp <;> omega) ⟨fe rfl (by first | rfl | exact vint_eq (by first | omega | simp <;> omega) | exact vsl_eq (by simp) | exact vstr_eq (by simp)), fe rfl (by first | rfl | exact vint_eq (by first | omega | simp <;> omega) | exact vsl_eq (by simp) | exact vstr_eq (by simp)), trivial⟩ ⟨rfl, rfl, trivial⟩ (Has.take (Repl.row (by repeat first | exact R0 | apply RT) (by first | rfl | simp)) Has.nil) (fun q hk => ?_)
  obtain ⟨k, u⟩ := q
  try dsimp only at hk
  skip
  have hsl := hlen k hk
  refine J_seq ?_
  refine JSR ?_
  refine JM rfl rfl ?_
  refine JM rfl rfl ?_
  refine JQ (Q_len Tryz.underlying82 rfl (.tmp rfl)) rfl ?_
  refine JQ (Q_lss (.tmp rfl) (.tmp rfl)) rfl ?_
  refine JN ?_
  refine J_cond (.tmp rfl) (fun h0 => ?_) (fun h0 => ?_)
  · try simp only [BS, ne_eq] at h0
    have h1k := hnk k (by first | omega | simp <;> omega)
    have h2k := modeB_len l[k].1
    have h3k := l[k].2.2.h
    refine J_skip ?_
    refine J_then_normal ?_
    refine J_seq ?_
    refine J_block ?_
    refine J_seq ?_
    refine J_draw mix 14 [11, 12, 13, 14, 15, 16, 17, 18, 19, 20, 21, 22, 23, 24] [_, _, _, _, _, _, _, _, _, _, _, _, _, _] rfl rfl (by kernel_rfl) (by kernel_rfl) (by kernel_rfl) (by kernel_rfl) (by kernel_rfl) ⟨QS (Q_move (.tmp rfl)) rfl, QS (Q_move (.tmp rfl)) rfl, QS (Q_move (.tmp rfl)) rfl, QS ((by first | exact Q_idxAddrN Tryz.underlying82 T81.size (.tmp rfl) (.tmp rfl) (by first | omega | simp <;> omega) | exact Q_idxAddr Tryz.underlying82 T81.size (.tmp rfl) (.tmp rfl) (by first | omega | simp <;> omega) (by first | omega | simp <;> omega))) rfl, QS (Q_fieldAddrI F81_0 (by decide) (Lens.fst Lens.id) (.tmp rfl)) rfl, QS (Q_load (.tmp rfl) T3) rfl, QS (Q_call (rMode_c _) ⟨(.tmp rfl), trivial⟩) rfl, QS (Q_cat (.tmp rfl) At.str (by simp; omega)) rfl, QS (Q_move (.tmp rfl)) rfl, QS (Q_move (.tmp rfl)) rfl, QS ((by first | exact Q_idxAddrN Tryz.underlying82 T81.size (.tmp rfl) (.tmp rfl) (by first | omega | simp <;> omega) | exact Q_idxAddr Tryz.underlying82 T81.size (.tmp rfl) (.tmp rfl) (by first | omega | simp <;> omega) (by first | omega | simp <;> omega))) rfl, QS (Q_fieldAddrI F81_1 (by decide) (Lens.snd (Lens.fst Lens.id) (by first | rfl | (simp only [Enc.size, Nat.zero_add, Nat.mul_one, Nat.add_zero]; omega))) (.tmp rfl)) rfl, QS (Q_strOf (l := (l[k]).2.1.l) (Q_load (.tmp rfl) T9) rfl) rfl, QS (Q_cat (.tmp rfl) (.tmp rfl) (by simp; omega)) rfl, trivial⟩ ?_
    refine J_appendS E5 (by kernel_rfl) Tryz.underlying23 Tryz.underlying9 (.tmp rfl) (.tmp rfl) (by repeat first | exact R0 | apply RT) (by first | omega | simp <;> omega) rfl (fun v25 => ?_)
    refine JA rfl rfl ?_
    refine JNSR ?_
    refine JM rfl rfl ?_
    refine JQ (Q_buildSlice (α := UInt8) E5 Tryz.underlying23 [.const (.int .u8 0)] [_] rfl rfl ⟨(At.k8 (z := 0) (by decide)), trivial⟩ (Nat.le_of_ble_eq_true rfl)) rfl ?_
    refine J_append (α := UInt8) E5 Tryz.underlying23 (.tmp rfl) (.tmp rfl) (by repeat first | exact R0 | apply RT) (by first | omega | (simp; omega)) (by first | (simp only [maxLen]; omega) | (simp [maxLen]; omega)) rfl (fun v28 => ?_)
    refine JA rfl rfl ?_
    refine JNR ?_
    refine JM rfl rfl ?_
    refine JM rfl rfl ?_
    refine JM rfl rfl ?_
    refine JQ (by first | exact Q_idxAddrN Tryz.underlying82 T81.size (.tmp rfl) (.tmp rfl) (by first | omega | simp <;> omega) | exact Q_idxAddr Tryz.underlying82 T81.size (.tmp rfl) (.tmp rfl) (by first | omega | simp <;> omega) (by first | omega | simp <;> omega)) rfl ?_
    refine JQ (Q_fieldAddrI F81_2 (by decide) (Lens.snd (Lens.snd Lens.id (by first | rfl | (simp only [Enc.size, Nat.zero_add, Nat.mul_one, Nat.add_zero]; omega))) (by first | rfl | (simp only [Enc.size, Nat.zero_add, Nat.mul_one, Nat.add_zero]; omega))) (.tmp rfl)) rfl ?_
    refine JQ (Q_sliceA Tryz.underlying37 T5.size (by decide) (.tmp rfl) rfl rfl (by first | omega | simp <;> omega) (by first | omega | simp <;> omega) (by first | omega | simp <;> omega)) rfl ?_
    refine J_append (α := UInt8) E5 Tryz.underlying23 (.tmp rfl) (.tmp rfl) (by repeat first | exact R0 | apply RT) (by first | omega | (simp; omega)) (by first | (simp only [maxLen]; omega) | (simp [maxLen]; omega)) rfl (fun v35 => ?_)
    refine JA rfl rfl ?_
    refine J_nil ?_
    refine J_blk_normal ?_
    refine J_then_normal ?_
    refine J_region ?_
    refine JM rfl rfl ?_
    refine JQ (Q_addi (.tmp rfl) At.int (by first | omega | simp <;> omega) (by first | omega | simp <;> omega)) rfl ?_
    refine JA rfl rfl ?_
    refine JN ?_
    refine J_back ((k + 1, v35)) ?_ ?_ ?_ ?_
    · exact ⟨by omega, by simp only; omega⟩
    · exact ⟨fe rfl (by first | rfl | exact vint_eq (by first | omega | simp <;> omega) | exact vsl_eq (by simp) | exact vstr_eq (by simp)), fe rfl (by first | rfl | exact vint_eq (by first | omega | simp <;> omega) | exact vsl_eq (by simp) | exact vstr_eq (by simp)), trivial⟩
    · exact ⟨rfl, rfl, trivial⟩
    · exact (Has.take (Repl.row (by repeat first | exact R0 | apply RT) (by rw [saidB_s (by first | omega | simp <;> omega)]; simp [saidE, List.take_of_length_le, l[k].2.2.h])) Has.nil)
  try simp only [BS, ne_eq] at h0
  refine J_exit ?_
  refine J_then_exit ?_
  refine J_then_exit ?_
  refine J_blk_out ?_
  refine J_then_normal ?_
  refine JSR ?_
  refine J_freezeR (sl := 3) (by repeat first | exact R0 | apply RT) rfl ?_
  obtain rfl : k = l.length := (by first | omega | simp <;> omega)
  refine JM rfl rfl ?_
  refine JA rfl rfl ?_
  refine JN ?_
  refine J_retc ?_
  exact J_ret1 rfl (ResAt.tmp rfl) () trivial Split.nil (imp_eq (by rw [List.take_length]))
theorem rEncTree_c (l : List Ent) (hn : ∀ e ∈ l, e.2.1.l.length ≤ 1048576) : FnP Tryz.prog 27 [Sl l] (VTup [Sl (encTreeB l).1, VInt .i64 (encTreeB l).2]) := by
  have hnk : ∀ k (h : k < l.length), (l[k]).2.1.l.length ≤ 1048576 := fun k h => hn _ (List.getElem_mem h)
  have hnz : ∀ i, (l.getD i GoZero.z).2.1.l.length ≤ 1048576 := fun i => by
    by_cases h : i < l.length
    · have : l.getD i GoZero.z = l[i] := by simp [List.getD_eq_getElem?_getD, h]
      rw [this]; exact hnk i h
    · have : l.getD i GoZero.z = (GoZero.z : Ent) := by simp [List.getD_eq_getElem?_getD, Nat.not_lt.1 h]
      rw [this]; exact Nat.zero_le _
  refine FnP_intro (by kernel_rfl) Tryz.func27 rfl Tryz.ntmps27 rfl (fun e => ?_)
  refine JSR ?_
  refine JQ (Q_assign (At.nils (α := UInt8))) rfl ?_
  refine JQ (Q_assign At.int) rfl ?_
  refine JNSSR ?_
  refine JM rfl rfl ?_
  refine JQ (Q_len Tryz.underlying82 rfl (.tmp rfl)) rfl ?_
  refine JQ (Q_gtr (.tmp rfl) At.int) rfl ?_
  refine JN ?_
  refine J_cond (.tmp rfl) (fun h0 => ?_) (fun h0 => ?_)
  · try simp only [BS, ne_eq] at h0
    refine JSR ?_
    refine JQ (Q_assign (At.nils (α := UInt8))) rfl ?_
    refine JQ (Q_assign At.int) rfl ?_
    refine JN ?_
    refine J_retc ?_
    refine J_then_ret ?_
    exact J_ret2 rfl (ResAt.tmp rfl) (ResAt.tmp rfl) () trivial Split.nil (imp_eq (by unfold encTreeB; rw [if_pos (by first | omega | simp <;> omega)]))
  try simp only [BS, ne_eq] at h0
  refine J_skip ?_
  refine J_then_normal ?_
  refine J_seq ?_
  refine JSR ?_
  refine JQ (Q_assign At.int) rfl ?_
  refine JN ?_
  refine J_block ?_
  refine J_loopU (ι := Nat) (fun k => k ≤ l.length ∧ ∀ e ∈ l.take k, encOk e = true) (fun k => [(4, VInt .i64 (k : Nat))]) [(0, _)] (fun k => []) (fun k => l.length - k) (0) ⟨by omega, by simp⟩ ⟨fe rfl (by first | rfl | exact vint_eq (by first | omega | simp <;> omega) | exact vsl_eq (by simp) | exact vstr_eq (by simp)), trivial⟩ ⟨rfl, trivial⟩ Has.nil (fun k hq => ?_)
  obtain ⟨hk, hok⟩ := hq
  refine J_seq ?_
  refine JSR ?_
  refine JM rfl rfl ?_
  refine JM rfl rfl ?_
  refine JQ (Q_len Tryz.underlying82 rfl (.tmp rfl)) rfl ?_
  refine JQ (Q_lss (.tmp rfl) (.tmp rfl)) rfl ?_
  refine JN ?_
  refine J_cond (.tmp rfl) (fun h1 => ?_) (fun h1 => ?_)
  · try simp only [BS, ne_eq] at h1
    refine J_skip ?_
    refine J_then_normal ?_
    refine J_seq ?_
    refine J_block ?_
    refine JSR ?_
    refine JM rfl rfl ?_
    refine JM rfl rfl ?_
    refine JQ (by first | exact Q_idxAddrN Tryz.underlying82 T81.size (.tmp rfl) (.tmp rfl) (by first | omega | simp <;> omega) | exact Q_idxAddr Tryz.underlying82 T81.size (.tmp rfl) (.tmp rfl) (by first | omega | simp <;> omega) (by first | omega | simp <;> omega)) rfl ?_
    refine JQ (Q_fieldAddrI F81_0 (by decide) (Lens.fst Lens.id) (.tmp rfl)) rfl ?_
    refine JQ (Q_load (.tmp rfl) T3) rfl ?_
    refine JQ (Q_call (rMode_c _) ⟨(.tmp rfl), trivial⟩) rfl ?_
    refine JQ (Q_eqls (.tmp rfl) At.str) rfl ?_
    refine JM rfl rfl ?_
    refine J_qstep (QG rfl rfl rfl rfl rfl opt_bool (fun hg => Q_move (.tmp rfl))) rfl rfl ?_
    refine J_qstep (QG rfl rfl rfl rfl rfl opt_bool (fun hg => Q_move (.tmp rfl))) rfl rfl ?_
    refine J_qstep (QG rfl rfl rfl rfl rfl opt_bool (fun hg => (by have hg0 := hg; simp only [BS, ne_eq] at hg0; exact Q_idxAddrZ Tryz.underlying82 T81.size (At.opt rfl (by first | exact hg | (simp only [BS, ne_eq] at hg ⊢; first | exact hg | simp_all))) (At.opt rfl (by first | exact hg | (simp only [BS, ne_eq] at hg ⊢; first | exact hg | simp_all))) (by first | omega | simp <;> omega) (by first | omega | simp <;> omega)))) rfl rfl ?_
    refine J_qstep (QG rfl rfl rfl rfl rfl opt_bool (fun hg => (by have hg0 := hg; simp only [BS, ne_eq] at hg0; exact Q_fieldAddrI F81_1 (by decide) (Lens.snd (Lens.fst Lens.id) (by first | rfl | (simp only [Enc.size, Nat.zero_add, Nat.mul_one, Nat.add_zero]; omega))) (At.opt rfl (by first | exact hg | (simp only [BS, ne_eq] at hg ⊢; first | exact hg | simp_all)))))) rfl rfl ?_
    refine J_qstep (QG rfl rfl rfl rfl rfl opt_bool (fun hg => (by have hg0 := hg; simp only [BS, ne_eq] at hg0; exact Q_strOf (Q_load (At.opt rfl (by first | exact hg | (simp only [BS, ne_eq] at hg ⊢; first | exact hg | simp_all))) T9) (by (try dsimp only) <;> rfl)))) rfl rfl ?_
    refine J_qstep (QG rfl rfl rfl rfl rfl opt_bool (fun hg => (by have hg0 := hg; simp only [BS, ne_eq] at hg0; exact Q_call (rName_c _ (Nat.le_trans (hnz _) (by first | omega | simp <;> omega))) ⟨(At.opt rfl (by first | exact hg | (simp only [BS, ne_eq] at hg ⊢; first | exact hg | simp_all))), trivial⟩))) rfl rfl ?_
    refine J_qstep (QG rfl rfl rfl rfl rfl opt_bool (fun hg => (by have hg0 := hg; simp only [BS, ne_eq] at hg0; exact Q_not (At.opt rfl (by first | exact hg | (simp only [BS, ne_eq] at hg ⊢; first | exact hg | simp_all)))))) rfl rfl ?_
    refine JQ (Q_orB (.tmp rfl) (fun hb => At.opt rfl (by simp only [BS, ne_eq] at hb ⊢; first | exact hb | simp_all))) rfl ?_
    refine JN ?_
    refine J_cond (.tmp rfl) (fun h2 => ?_) (fun h2 => ?_)
    · try simp only [BS, ne_eq] at h2
      have hgz : l.getD ((k : Nat) : Int).toNat GoZero.z = l[k] := by simp [List.getD_eq_getElem?_getD, show k < l.length by omega]
      rw [hgz] at h2
      refine JSR ?_
      refine JQ (Q_assign (At.nils (α := UInt8))) rfl ?_
      refine JQ (Q_assign At.int) rfl ?_
      refine JN ?_
      refine J_retc ?_
      refine J_blk_ret ?_
      refine J_then_ret ?_
      refine J_then_ret ?_
      refine J_blk_ret ?_
      refine J_then_ret ?_
      exact J_ret2 rfl (ResAt.tmp rfl) (ResAt.tmp rfl) () trivial Split.nil (imp_eq (by unfold encTreeB; rw [if_neg (by first | omega | simp <;> omega), if_pos (fun hc => by have := hc l[k] (List.getElem_mem _); unfold encOk at this; rcases h2 with h2 | h2 <;> simp [h2] at this)]))
    try simp only [BS, ne_eq] at h2
    have hgz : l.getD ((k : Nat) : Int).toNat GoZero.z = l[k] := by simp [List.getD_eq_getElem?_getD, show k < l.length by omega]
    rw [hgz] at h2
    refine J_skip ?_
    refine J_blk_normal ?_
    refine J_then_normal ?_
    refine J_region ?_
    refine JM rfl rfl ?_
    refine JQ (Q_addi (.tmp rfl) At.int (by first | omega | simp <;> omega) (by first | omega | simp <;> omega)) rfl ?_
    refine JA rfl rfl ?_
    refine JN ?_
    refine J_back (k + 1) ?_ ?_ ?_ ?_
    · exact ⟨⟨by omega, fun e he => by rw [List.take_succ_eq_append_getElem (by first | omega | simp <;> omega), List.mem_append, List.mem_singleton] at he; rcases he with he | rfl; (exact hok e he); (unfold encOk; simp [h2])⟩, by omega⟩
    · exact ⟨fe rfl (by first | rfl | exact vint_eq (by first | omega | simp <;> omega) | exact vsl_eq (by simp) | exact vstr_eq (by simp)), trivial⟩
    · exact ⟨rfl, trivial⟩
    · exact Has.nil
  try simp only [BS, ne_eq] at h1
  refine J_exit ?_
  refine J_then_exit ?_
  refine J_then_exit ?_
  refine J_blk_out ?_
  refine J_then_normal ?_
  refine J_seq ?_
  refine JSR ?_
  refine JM rfl rfl ?_
  refine JQ (Q_call (rRising_c _ (by assumption)) ⟨(.tmp rfl), trivial⟩) rfl ?_
  refine JQ (Q_not (.tmp rfl)) rfl ?_
  refine JN ?_
  refine J_cond (.tmp rfl) (fun h3 => ?_) (fun h3 => ?_)
  · try simp only [BS, ne_eq] at h3
    refine JSR ?_
    refine JQ (Q_assign (At.nils (α := UInt8))) rfl ?_
    refine JQ (Q_assign At.int) rfl ?_
    refine JN ?_
    refine J_retc ?_
    refine J_then_ret ?_
    obtain rfl : k = l.length := (by first | omega | simp <;> omega)
    rw [List.take_length] at hok
    exact J_ret2 rfl (ResAt.tmp rfl) (ResAt.tmp rfl) () trivial Split.nil (imp_eq (by unfold encTreeB; rw [if_neg (by first | omega | simp <;> omega), if_neg (fun hc => hc hok), if_pos h3]))
  try simp only [BS, ne_eq] at h3
  refine J_skip ?_
  refine J_then_normal ?_
  refine JSR ?_
  refine JM rfl rfl ?_
  refine JQ (Q_call (rSaid_c _ (by assumption) (by first | omega | simp <;> omega)) ⟨(.tmp rfl), trivial⟩) rfl ?_
  refine JA rfl rfl ?_
  refine JNSSR ?_
  refine JM rfl rfl ?_
  refine JQ (Q_len Tryz.underlying23 rfl (.tmp rfl)) rfl ?_
  refine JQ (Q_gtr (.tmp rfl) At.int) rfl ?_
  refine JN ?_
  refine J_cond (.tmp rfl) (fun h4 => ?_) (fun h4 => ?_)
  · try simp only [BS, ne_eq] at h4
    refine JSR ?_
    refine JQ (Q_assign (At.nils (α := UInt8))) rfl ?_
    refine JQ (Q_assign At.int) rfl ?_
    refine JN ?_
    refine J_retc ?_
    refine J_then_ret ?_
    obtain rfl : k = l.length := (by first | omega | simp <;> omega)
    rw [List.take_length] at hok
    exact J_ret2 rfl (ResAt.tmp rfl) (ResAt.tmp rfl) () trivial Split.nil (imp_eq (by unfold encTreeB; rw [if_neg (by first | omega | simp <;> omega), if_neg (fun hc => hc hok), if_neg (by rw [h3]; simp), if_pos (by first | omega | simp <;> omega)]))
  try simp only [BS, ne_eq] at h4
  refine J_skip ?_
  refine J_then_normal ?_
  refine JSR ?_
  refine JM rfl rfl ?_
  refine JA rfl rfl ?_
  refine JQ (Q_assign At.int) rfl ?_
  refine JN ?_
  refine J_retc ?_
  obtain rfl : k = l.length := (by first | omega | simp <;> omega)
  rw [List.take_length] at hok
  exact J_ret2 rfl (ResAt.tmp rfl) (ResAt.tmp rfl) () trivial Split.nil (imp_eq (by unfold encTreeB; rw [if_neg (by first | omega | simp <;> omega), if_neg (fun hc => hc hok), if_neg (by rw [h3]; simp), if_neg (by first | omega | simp <;> omega)]))
end Go.Sep
