/- Lemmas for the statement below: steps of the walk. Conditions: none of their own. -/
import Derived.Test.YtejlcnbhaagdjaaGreatDoorZ03
set_option linter.unusedSimpArgs false
set_option linter.unusedVariables false
set_option linter.unusedSectionVars false
namespace Go.Sep
open Go Go.Proofs
open Enc (V)
attribute [local irreducible] Quiet QStep J At FnX Fn FnP Repl Split Has Post Back GoZ
attribute [local irreducible] wordR rotl
theorem rBlock_v (h : Arr 5 UInt32) (b : Bytes) (hb : 64 ≤ b.length) : FnP Tryz.prog 113 [V h, Sl b] (VEx (fun _ : Arr 5 UInt32 => True) V) := by
  refine FnP_intro (by kernel_rfl) Tryz.func113 rfl Tryz.ntmps113 rfl (fun e => ?_)
  refine J_lenLe (t := 1) rfl (fun hl1 => ?_)
  refine JSR ?_
  refine J_box (α := (Arr 5 UInt32)) (.tmp rfl) rfl (fun b2 => ?_)
  refine J_alloc Z192 rfl (fun b4 => ?_)
  refine JNSR ?_
  refine J_makeRow (α := UInt32) E191 Z191 Tryz.underlying220 At.int At.int (by first | omega | simp <;> omega) (by first | omega | decide) (by first | decide | (simp only [maxLen]; omega)) rfl (fun v14 => ?_)
  refine JA rfl rfl ?_
  refine JNSSR ?_
  refine JQ (Q_assign At.int) rfl ?_
  refine JN ?_
  refine J_block ?_
  refine J_loopU (ι := Nat × List UInt32) (fun q => match q with | (m, l) => m ≤ 16 ∧ l.length = 80) (fun q => match q with | (m, l) => [(6, VInt .i64 (m : Nat))]) [(1, _), (2, _), (4, _), (5, _)] (fun q => match q with | (m, l) => [RowR 191 v14 l, BoxR 192 b2 h, BoxR 192 b4 (GoZero.z : Arr 5 UInt32)]) (fun q => match q with | (m, l) => 16 - m) ((0, List.replicate 80 GoZero.z)) ⟨by omega, by simp⟩ ⟨fe rfl (by first | rfl | exact vint_eq (by first | omega | simp <;> omega) | exact vsl_eq (by simp) | exact vstr_eq (by simp)), trivial⟩ ⟨rfl, rfl, rfl, rfl, trivial⟩ (Has.take (Repl.row (by repeat first | exact R0 | apply RT) (by first | rfl | simp)) (Has.take (Repl.box (by repeat first | exact R0 | apply RT) (by first | rfl | simp)) (Has.take (Repl.box (by repeat first | exact R0 | apply RT) (by first | rfl | simp)) Has.nil))) (fun q hq => ?_)
  obtain ⟨m, l⟩ := q
  try dsimp only at hq
  obtain ⟨hm, hl⟩ := hq
  refine J_seq ?_
  refine JSR ?_
  refine JM rfl rfl ?_
  refine JQ (Q_lss (.tmp rfl) At.int) rfl ?_
  refine JN ?_
  refine J_cond (.tmp rfl) (fun h0 => ?_) (fun h0 => ?_)
  · try simp only [BS, ne_eq] at h0
    refine J_skip ?_
    refine J_then_normal ?_
    refine J_seq ?_
    refine J_block ?_
    refine J_region ?_
    refine JM rfl rfl ?_
    refine JM rfl rfl ?_
    refine JM rfl rfl ?_
    refine JM rfl rfl ?_
    refine JQ (Q_muli At.int (.tmp rfl) (by first | omega | simp <;> omega) (by first | omega | simp <;> omega)) rfl ?_
    refine JQ (Q_slice Tryz.underlying23 T5.size (.tmp rfl) ⟨_, (.tmp rfl)⟩ rfl (by first | omega | simp <;> omega) (by first | omega | simp <;> omega) (by first | omega | simp <;> omega)) rfl ?_
    refine JQ (Q_call (rWordU_c _ (by first | omega | simp <;> omega)) ⟨(.tmp rfl), trivial⟩) rfl ?_
    refine JQ (Q_idxAddrR (α := UInt32) Tryz.underlying220 T191.size (.tmp rfl) (by repeat first | exact R0 | apply RT) (.tmp rfl) (by first | omega | simp <;> omega) (by first | omega | simp <;> omega)) rfl ?_
    refine J_storeA (α := UInt32) (.tmp rfl) (.tmp rfl) rfl (by repeat first | exact R1 | apply RT) (by first | omega | simp <;> omega) T191.size ?_
    refine J_nil ?_
    refine J_blk_normal ?_
    refine J_then_normal ?_
    refine J_region ?_
    refine JM rfl rfl ?_
    refine JQ (Q_addi (.tmp rfl) At.int (by first | omega | simp <;> omega) (by first | omega | simp <;> omega)) rfl ?_
    refine JA rfl rfl ?_
    refine JN ?_
    refine J_gen (el := 191) (v := v14) (by repeat first | exact R0 | apply RT) (fun l2 hl2 => ?_)
    simp only [List.length_set] at hl2
    refine J_back ((m + 1, l2)) ?_ ?_ ?_ ?_
    · exact ⟨⟨by omega, by omega⟩, by simp only; omega⟩
    · exact ⟨fe rfl (by first | rfl | exact vint_eq (by first | omega | simp <;> omega) | exact vsl_eq (by simp) | exact vstr_eq (by simp)), trivial⟩
    · exact ⟨rfl, rfl, rfl, rfl, trivial⟩
    · exact (Has.take (Repl.row (by repeat first | exact R0 | apply RT) (by first | rfl | simp)) (Has.take (Repl.box (by repeat first | exact R0 | apply RT) (by first | rfl | simp)) (Has.take (Repl.box (by repeat first | exact R0 | apply RT) (by first | rfl | simp)) Has.nil)))
  try simp only [BS, ne_eq] at h0
  refine J_exit ?_
  refine J_then_exit ?_
  refine J_then_exit ?_
  refine J_blk_out ?_
  refine J_then_normal ?_
  refine J_seq ?_
  refine JSR ?_
  refine JQ (Q_assign At.int) rfl ?_
  refine JN ?_
  refine J_block ?_
  refine J_loopU (ι := Nat × List UInt32) (fun q => match q with | (m1, l3) => 16 ≤ m1 ∧ m1 ≤ 80 ∧ l3.length = 80) (fun q => match q with | (m1, l3) => [(7, VInt .i64 (m1 : Nat))]) [(2, _), (4, _), (5, _)] (fun q => match q with | (m1, l3) => [RowR 191 v14 l3, BoxR 192 b2 h, BoxR 192 b4 (GoZero.z : Arr 5 UInt32)]) (fun q => match q with | (m1, l3) => 80 - m1) ((16, l)) ⟨by omega, by omega, hl⟩ ⟨fe rfl (by first | rfl | exact vint_eq (by first | omega | simp <;> omega) | exact vsl_eq (by simp) | exact vstr_eq (by simp)), trivial⟩ ⟨rfl, rfl, rfl, trivial⟩ (Has.take (Repl.row (by repeat first | exact R0 | apply RT) (by first | rfl | simp)) (Has.take (Repl.box (by repeat first | exact R0 | apply RT) (by first | rfl | simp)) (Has.take (Repl.box (by repeat first | exact R0 | apply RT) (by first | rfl | simp)) Has.nil))) (fun q_1 hq_1 => ?_)
  obtain ⟨m1, l3⟩ := q_1
  try dsimp only at hq_1
  obtain ⟨hm1, hm2, hl3⟩ := hq_1
  refine J_seq ?_
  refine JSR ?_
  refine JM rfl rfl ?_
  refine JQ (Q_lss (.tmp rfl) At.int) rfl ?_
  refine JN ?_
  refine J_cond (.tmp rfl) (fun h1 => ?_) (fun h1 => ?_)
  · try simp only [BS, ne_eq] at h1
    refine J_skip ?_
    refine J_then_normal ?_
    refine J_seq ?_
    refine J_block ?_
    refine J_draw mix 27 [31, 32, 33, 34, 35, 36, 37, 38, 39, 40, 41, 42, 43, 44, 45, 46, 47, 48, 49, 50, 51, 52, 53, 54, 55, 56, 57] [_, _, _, _, _, _, _, _, _, _, _, _, _, _, _, _, _, _, _, _, _, _, _, _, _, _, _] rfl rfl (by kernel_rfl) (by kernel_rfl) (by kernel_rfl) (by kernel_rfl) (by kernel_rfl) ⟨QS (Q_move (.tmp rfl)) rfl, QS (Q_move (.tmp rfl)) rfl, QS (Q_move (.tmp rfl)) rfl, QS (Q_move (.tmp rfl)) rfl, QS (Q_subi (.tmp rfl) At.int (by first | omega | simp <;> omega) (by first | omega | simp <;> omega)) rfl, QS (Q_idxAddrR (α := UInt32) Tryz.underlying220 T191.size (.tmp rfl) (by repeat first | exact R0 | apply RT) (.tmp rfl) (by first | omega | simp <;> omega) (by first | omega | simp <;> omega)) rfl, QS (Q_loadR (α := UInt32) (.tmp rfl) (by repeat first | exact R0 | apply RT) T191 (by first | omega | simp <;> omega)) rfl, QS (Q_move (.tmp rfl)) rfl, QS (Q_move (.tmp rfl)) rfl, QS (Q_subi (.tmp rfl) At.int (by first | omega | simp <;> omega) (by first | omega | simp <;> omega)) rfl, QS (Q_idxAddrR (α := UInt32) Tryz.underlying220 T191.size (.tmp rfl) (by repeat first | exact R0 | apply RT) (.tmp rfl) (by first | omega | simp <;> omega) (by first | omega | simp <;> omega)) rfl, QS (Q_loadR (α := UInt32) (.tmp rfl) (by repeat first | exact R0 | apply RT) T191 (by first | omega | simp <;> omega)) rfl, QS (Q_xor32 (.tmp rfl) (.tmp rfl)) rfl, QS (Q_move (.tmp rfl)) rfl, QS (Q_move (.tmp rfl)) rfl, QS (Q_subi (.tmp rfl) At.int (by first | omega | simp <;> omega) (by first | omega | simp <;> omega)) rfl, QS (Q_idxAddrR (α := UInt32) Tryz.underlying220 T191.size (.tmp rfl) (by repeat first | exact R0 | apply RT) (.tmp rfl) (by first | omega | simp <;> omega) (by first | omega | simp <;> omega)) rfl, QS (Q_loadR (α := UInt32) (.tmp rfl) (by repeat first | exact R0 | apply RT) T191 (by first | omega | simp <;> omega)) rfl, QS (Q_xor32 (.tmp rfl) (.tmp rfl)) rfl, QS (Q_move (.tmp rfl)) rfl, QS (Q_move (.tmp rfl)) rfl, QS (Q_subi (.tmp rfl) At.int (by first | omega | simp <;> omega) (by first | omega | simp <;> omega)) rfl, QS (Q_idxAddrR (α := UInt32) Tryz.underlying220 T191.size (.tmp rfl) (by repeat first | exact R0 | apply RT) (.tmp rfl) (by first | omega | simp <;> omega) (by first | omega | simp <;> omega)) rfl, QS (Q_loadR (α := UInt32) (.tmp rfl) (by repeat first | exact R0 | apply RT) T191 (by first | omega | simp <;> omega)) rfl, QS (Q_xor32 (.tmp rfl) (.tmp rfl)) rfl, QS (Q_call (rLeft_c _ _ (by first | omega | simp <;> omega)) ⟨(.tmp rfl), (At.k64 (z := 1) (by decide)), trivial⟩) rfl, QS (Q_idxAddrR (α := UInt32) Tryz.underlying220 T191.size (.tmp rfl) (by repeat first | exact R0 | apply RT) (.tmp rfl) (by first | omega | simp <;> omega) (by first | omega | simp <;> omega)) rfl, trivial⟩ ?_
    refine J_storeA (α := UInt32) (.tmp rfl) (.tmp rfl) rfl (by repeat first | exact R1 | apply RT) (by first | omega | simp <;> omega) T191.size ?_
    refine J_nil ?_
    refine J_blk_normal ?_
    refine J_then_normal ?_
    refine J_region ?_
    refine JM rfl rfl ?_
    refine JQ (Q_addi (.tmp rfl) At.int (by first | omega | simp <;> omega) (by first | omega | simp <;> omega)) rfl ?_
    refine JA rfl rfl ?_
    refine JN ?_
    refine J_gen (el := 191) (v := v14) (by repeat first | exact R0 | apply RT) (fun l4 hl4 => ?_)
    simp only [List.length_set] at hl4
    refine J_back ((m1 + 1, l4)) ?_ ?_ ?_ ?_
    · exact ⟨⟨by omega, by omega, by omega⟩, by simp only; omega⟩
    · exact ⟨fe rfl (by first | rfl | exact vint_eq (by first | omega | simp <;> omega) | exact vsl_eq (by simp) | exact vstr_eq (by simp)), trivial⟩
    · exact ⟨rfl, rfl, rfl, trivial⟩
    · exact (Has.take (Repl.row (by repeat first | exact R0 | apply RT) (by first | rfl | simp)) (Has.take (Repl.box (by repeat first | exact R0 | apply RT) (by first | rfl | simp)) (Has.take (Repl.box (by repeat first | exact R0 | apply RT) (by first | rfl | simp)) Has.nil)))
  try simp only [BS, ne_eq] at h1
  refine J_exit ?_
  refine J_then_exit ?_
  refine J_then_exit ?_
  refine J_blk_out ?_
  refine J_then_normal ?_
  refine JSR ?_
  refine JQ (Q_loadB (.tmp rfl) (by repeat first | exact R0 | apply RT) Lens.id T192 (by (try dsimp only) <;> rfl)) rfl ?_
  refine J_alloc Z192 rfl (fun b8 => ?_)
  refine J_store (.tmp rfl) (.tmp rfl) (by (try dsimp only) <;> rfl) (by repeat first | exact R1 | apply RT) Lens.id T192.size ?_
  refine JNSSR ?_
  refine JQ (Q_assign At.int) rfl ?_
  refine JN ?_
  refine J_block ?_
  refine J_loopU (ι := Nat × Arr 5 UInt32) (fun q => match q with | (m5, x) => m5 ≤ 80) (fun q => match q with | (m5, x) => [(9, VInt .i64 (m5 : Nat))]) [(2, _), (4, _), (5, _), (8, _)] (fun q => match q with | (m5, x) => [RowR 191 v14 l3, BoxR 192 b8 x, BoxR 192 b2 h, BoxR 192 b4 (GoZero.z : Arr 5 UInt32)]) (fun q => match q with | (m5, x) => 80 - m5) ((0, h)) (by first | omega | simp <;> omega) ⟨fe rfl (by first | rfl | exact vint_eq (by first | omega | simp <;> omega) | exact vsl_eq (by simp) | exact vstr_eq (by simp)), trivial⟩ ⟨rfl, rfl, rfl, rfl, trivial⟩ (Has.take (Repl.row (by repeat first | exact R0 | apply RT) (by first | rfl | simp)) (Has.take (Repl.box (by repeat first | exact R0 | apply RT) (by first | rfl | simp)) (Has.take (Repl.box (by repeat first | exact R0 | apply RT) (by first | rfl | simp)) (Has.take (Repl.box (by repeat first | exact R0 | apply RT) (by first | rfl | simp)) Has.nil)))) (fun q_2 hq_2 => ?_)
  obtain ⟨m5, x⟩ := q_2
  try dsimp only at hq_2
  obtain hm5 := hq_2
  refine J_seq ?_
  refine JSR ?_
  refine JM rfl rfl ?_
  refine JQ (Q_lss (.tmp rfl) At.int) rfl ?_
  refine JN ?_
  refine J_cond (.tmp rfl) (fun h2 => ?_) (fun h2 => ?_)
  · try simp only [BS, ne_eq] at h2
    refine J_skip ?_
    refine J_then_normal ?_
    refine J_seq ?_
    refine J_block ?_
    refine JSR ?_
    refine JQ (Q_assign (At.k32 (z := 0) (by decide))) rfl ?_
    refine JNSR ?_
    refine JQ (Q_assign (At.k32 (z := 0) (by decide))) rfl ?_
    refine JN ?_
    refine J_seq ?_
    refine J_block ?_
    refine JSR ?_
    refine JM rfl rfl ?_
    refine JQ (Q_lss (.tmp rfl) At.int) rfl ?_
    refine JA rfl rfl ?_
    refine JN ?_
    refine J_cond (.tmp rfl) (fun h3 => ?_) (fun h3 => ?_)
    · try simp only [BS, ne_eq] at h3
      refine JSR ?_
      refine JQ (Q_idxAddrP Tryz.underlying192 T191.size (.tmp rfl) At.int (by first | omega | simp <;> omega) (by first | omega | simp <;> omega)) rfl ?_
      refine JQ (Q_loadB (.tmp rfl) (by repeat first | exact R0 | apply RT) (Lens.idxO (_) (by first | (simp only [Nat.zero_add]; rfl) | rfl) (by first | omega | simp <;> omega)) T191 (by (try dsimp only) <;> rfl)) rfl ?_
      refine JQ (Q_idxAddrP Tryz.underlying192 T191.size (.tmp rfl) At.int (by first | omega | simp <;> omega) (by first | omega | simp <;> omega)) rfl ?_
      refine JQ (Q_loadB (.tmp rfl) (by repeat first | exact R0 | apply RT) (Lens.idxO (_) (by first | (simp only [Nat.zero_add]; rfl) | rfl) (by first | omega | simp <;> omega)) T191 (by (try dsimp only) <;> rfl)) rfl ?_
      refine JQ (Q_and32 (.tmp rfl) (.tmp rfl)) rfl ?_
      refine JQ (Q_idxAddrP Tryz.underlying192 T191.size (.tmp rfl) At.int (by first | omega | simp <;> omega) (by first | omega | simp <;> omega)) rfl ?_
      refine JQ (Q_loadB (.tmp rfl) (by repeat first | exact R0 | apply RT) (Lens.idxO (_) (by first | (simp only [Nat.zero_add]; rfl) | rfl) (by first | omega | simp <;> omega)) T191 (by (try dsimp only) <;> rfl)) rfl ?_
      refine JQ (Q_not32 (.tmp rfl)) rfl ?_
      refine JQ (Q_idxAddrP Tryz.underlying192 T191.size (.tmp rfl) At.int (by first | omega | simp <;> omega) (by first | omega | simp <;> omega)) rfl ?_
      refine JQ (Q_loadB (.tmp rfl) (by repeat first | exact R0 | apply RT) (Lens.idxO (_) (by first | (simp only [Nat.zero_add]; rfl) | rfl) (by first | omega | simp <;> omega)) T191 (by (try dsimp only) <;> rfl)) rfl ?_
      refine JQ (Q_and32 (.tmp rfl) (.tmp rfl)) rfl ?_
      refine JQ (Q_or32 (.tmp rfl) (.tmp rfl)) rfl ?_
      refine JA rfl rfl ?_
      refine JNR ?_
      refine JQ (Q_assign (At.k32 (z := 1518500249) (by decide))) rfl ?_
      refine J_nil ?_
      refine J_blk_normal ?_
      refine J_then_normal ?_
      refine J_seq ?_
      refine J_draw mix 16 [117, 118, 119, 120, 121, 122, 123, 124, 125, 126, 127, 128, 129, 130, 131, 12] [_, _, _, _, _, _, _, _, _, _, _, _, _, _, _, _] rfl rfl (by kernel_rfl) (by kernel_rfl) (by kernel_rfl) (by kernel_rfl) (by kernel_rfl) ⟨QS (Q_idxAddrP Tryz.underlying192 T191.size (.tmp rfl) At.int (by first | omega | simp <;> omega) (by first | omega | simp <;> omega)) rfl, QS (Q_loadB (.tmp rfl) (by repeat first | exact R0 | apply RT) (Lens.idxO (_) (by first | (simp only [Nat.zero_add]; rfl) | rfl) (by first | omega | simp <;> omega)) T191 (by (try dsimp only) <;> rfl)) rfl, QS (Q_call (rLeft_c _ _ (by first | omega | simp <;> omega)) ⟨(.tmp rfl), (At.k64 (z := 5) (by decide)), trivial⟩) rfl, QS (Q_move (.tmp rfl)) rfl, QS (Q_add32 (.tmp rfl) (.tmp rfl)) rfl, QS (Q_idxAddrP Tryz.underlying192 T191.size (.tmp rfl) At.int (by first | omega | simp <;> omega) (by first | omega | simp <;> omega)) rfl, QS (Q_loadB (.tmp rfl) (by repeat first | exact R0 | apply RT) (Lens.idxO (_) (by first | (simp only [Nat.zero_add]; rfl) | rfl) (by first | omega | simp <;> omega)) T191 (by (try dsimp only) <;> rfl)) rfl, QS (Q_add32 (.tmp rfl) (.tmp rfl)) rfl, QS (Q_move (.tmp rfl)) rfl, QS (Q_add32 (.tmp rfl) (.tmp rfl)) rfl, QS (Q_move (.tmp rfl)) rfl, QS (Q_move (.tmp rfl)) rfl, QS (Q_idxAddrR (α := UInt32) Tryz.underlying220 T191.size (.tmp rfl) (by repeat first | exact R0 | apply RT) (.tmp rfl) (by first | omega | simp <;> omega) (by first | omega | simp <;> omega)) rfl, QS (Q_loadR (α := UInt32) (.tmp rfl) (by repeat first | exact R0 | apply RT) T191 (by first | omega | simp <;> omega)) rfl, QS (Q_add32 (.tmp rfl) (.tmp rfl)) rfl, QS (Q_assign (.tmp rfl)) rfl, trivial⟩ ?_
      refine JNSR ?_
      refine JQ (Q_idxAddrP Tryz.underlying192 T191.size (.tmp rfl) At.int (by first | omega | simp <;> omega) (by first | omega | simp <;> omega)) rfl ?_
      refine JQ (Q_loadB (.tmp rfl) (by repeat first | exact R0 | apply RT) (Lens.idxO (_) (by first | (simp only [Nat.zero_add]; rfl) | rfl) (by first | omega | simp <;> omega)) T191 (by (try dsimp only) <;> rfl)) rfl ?_
      refine JQ (Q_idxAddrP Tryz.underlying192 T191.size (.tmp rfl) At.int (by first | omega | simp <;> omega) (by first | omega | simp <;> omega)) rfl ?_
      refine J_store (.tmp rfl) (.tmp rfl) (by (try dsimp only) <;> rfl) (by repeat first | exact R1 | apply RT) (Lens.idxO (_) (by first | (simp only [Nat.zero_add]; rfl) | rfl) (by first | omega | simp <;> omega)) T191.size ?_
      refine JNSR ?_
      refine JQ (Q_idxAddrP Tryz.underlying192 T191.size (.tmp rfl) At.int (by first | omega | simp <;> omega) (by first | omega | simp <;> omega)) rfl ?_
      refine JQ (Q_loadB (.tmp rfl) (by repeat first | exact R0 | apply RT) (Lens.idxO (_) (by first | (simp only [Nat.zero_add]; rfl) | rfl) (by first | omega | simp <;> omega)) T191 (by (try dsimp only) <;> rfl)) rfl ?_
      refine JQ (Q_idxAddrP Tryz.underlying192 T191.size (.tmp rfl) At.int (by first | omega | simp <;> omega) (by first | omega | simp <;> omega)) rfl ?_
      refine J_store (.tmp rfl) (.tmp rfl) (by (try dsimp only) <;> rfl) (by repeat first | exact R1 | apply RT) (Lens.idxO (_) (by first | (simp only [Nat.zero_add]; rfl) | rfl) (by first | omega | simp <;> omega)) T191.size ?_
      refine JNSR ?_
      refine JQ (Q_idxAddrP Tryz.underlying192 T191.size (.tmp rfl) At.int (by first | omega | simp <;> omega) (by first | omega | simp <;> omega)) rfl ?_
      refine JQ (Q_loadB (.tmp rfl) (by repeat first | exact R0 | apply RT) (Lens.idxO (_) (by first | (simp only [Nat.zero_add]; rfl) | rfl) (by first | omega | simp <;> omega)) T191 (by (try dsimp only) <;> rfl)) rfl ?_
      refine JQ (Q_call (rLeft_c _ _ (by first | omega | simp <;> omega)) ⟨(.tmp rfl), (At.k64 (z := 30) (by decide)), trivial⟩) rfl ?_
      refine JQ (Q_idxAddrP Tryz.underlying192 T191.size (.tmp rfl) At.int (by first | omega | simp <;> omega) (by first | omega | simp <;> omega)) rfl ?_
      refine J_store (.tmp rfl) (.tmp rfl) (by (try dsimp only) <;> rfl) (by repeat first | exact R1 | apply RT) (Lens.idxO (_) (by first | (simp only [Nat.zero_add]; rfl) | rfl) (by first | omega | simp <;> omega)) T191.size ?_
      refine JNSR ?_
      refine JQ (Q_idxAddrP Tryz.underlying192 T191.size (.tmp rfl) At.int (by first | omega | simp <;> omega) (by first | omega | simp <;> omega)) rfl ?_
      refine JQ (Q_loadB (.tmp rfl) (by repeat first | exact R0 | apply RT) (Lens.idxO (_) (by first | (simp only [Nat.zero_add]; rfl) | rfl) (by first | omega | simp <;> omega)) T191 (by (try dsimp only) <;> rfl)) rfl ?_
      refine JQ (Q_idxAddrP Tryz.underlying192 T191.size (.tmp rfl) At.int (by first | omega | simp <;> omega) (by first | omega | simp <;> omega)) rfl ?_
      refine J_store (.tmp rfl) (.tmp rfl) (by (try dsimp only) <;> rfl) (by repeat first | exact R1 | apply RT) (Lens.idxO (_) (by first | (simp only [Nat.zero_add]; rfl) | rfl) (by first | omega | simp <;> omega)) T191.size ?_
      refine JNR ?_
      refine JM rfl rfl ?_
      refine JQ (Q_idxAddrP Tryz.underlying192 T191.size (.tmp rfl) At.int (by first | omega | simp <;> omega) (by first | omega | simp <;> omega)) rfl ?_
      refine J_store (.tmp rfl) (.tmp rfl) (by (try dsimp only) <;> rfl) (by repeat first | exact R1 | apply RT) (Lens.idxO (_) (by first | (simp only [Nat.zero_add]; rfl) | rfl) (by first | omega | simp <;> omega)) T191.size ?_
      refine J_nil ?_
      refine J_blk_normal ?_
      refine J_then_normal ?_
      refine J_region ?_
      refine JM rfl rfl ?_
      refine JQ (Q_addi (.tmp rfl) At.int (by first | omega | simp <;> omega) (by first | omega | simp <;> omega)) rfl ?_
      refine JA rfl rfl ?_
      refine JN ?_
      refine J_genB (tb := 192) (b := b8) (by repeat first | exact R0 | apply RT) (fun x2 => ?_)
      refine J_back ((m5 + 1, x2)) ?_ ?_ ?_ ?_
      · exact ⟨by omega, by simp only; omega⟩
      · exact ⟨fe rfl (by first | rfl | exact vint_eq (by first | omega | simp <;> omega) | exact vsl_eq (by simp) | exact vstr_eq (by simp)), trivial⟩
      · exact ⟨rfl, rfl, rfl, rfl, trivial⟩
      · exact (Has.take (Repl.row (by repeat first | exact R0 | apply RT) (by first | rfl | simp)) (Has.take (Repl.box (by repeat first | exact R0 | apply RT) (by first | rfl | simp)) (Has.take (Repl.box (by repeat first | exact R0 | apply RT) (by first | rfl | simp)) (Has.take (Repl.box (by repeat first | exact R0 | apply RT) (by first | rfl | simp)) Has.nil))))
    try simp only [BS, ne_eq] at h3
    refine JSR ?_
    refine JM rfl rfl ?_
    refine JQ (Q_lss (.tmp rfl) At.int) rfl ?_
    refine JA rfl rfl ?_
    refine JN ?_
    refine J_cond (.tmp rfl) (fun h4 => ?_) (fun h4 => ?_)
    · try simp only [BS, ne_eq] at h4
      refine JSR ?_
      refine JQ (Q_idxAddrP Tryz.underlying192 T191.size (.tmp rfl) At.int (by first | omega | simp <;> omega) (by first | omega | simp <;> omega)) rfl ?_
      refine JQ (Q_loadB (.tmp rfl) (by repeat first | exact R0 | apply RT) (Lens.idxO (_) (by first | (simp only [Nat.zero_add]; rfl) | rfl) (by first | omega | simp <;> omega)) T191 (by (try dsimp only) <;> rfl)) rfl ?_
      refine JQ (Q_idxAddrP Tryz.underlying192 T191.size (.tmp rfl) At.int (by first | omega | simp <;> omega) (by first | omega | simp <;> omega)) rfl ?_
      refine JQ (Q_loadB (.tmp rfl) (by repeat first | exact R0 | apply RT) (Lens.idxO (_) (by first | (simp only [Nat.zero_add]; rfl) | rfl) (by first | omega | simp <;> omega)) T191 (by (try dsimp only) <;> rfl)) rfl ?_
      refine JQ (Q_xor32 (.tmp rfl) (.tmp rfl)) rfl ?_
      refine JQ (Q_idxAddrP Tryz.underlying192 T191.size (.tmp rfl) At.int (by first | omega | simp <;> omega) (by first | omega | simp <;> omega)) rfl ?_
      refine JQ (Q_loadB (.tmp rfl) (by repeat first | exact R0 | apply RT) (Lens.idxO (_) (by first | (simp only [Nat.zero_add]; rfl) | rfl) (by first | omega | simp <;> omega)) T191 (by (try dsimp only) <;> rfl)) rfl ?_
      refine JQ (Q_xor32 (.tmp rfl) (.tmp rfl)) rfl ?_
      refine JA rfl rfl ?_
      refine JNR ?_
      refine JQ (Q_assign (At.k32 (z := 1859775393) (by decide))) rfl ?_
      refine J_nil ?_
      refine J_blk_normal ?_
      refine J_then_normal ?_
      refine J_seq ?_
      refine J_draw mix 16 [117, 118, 119, 120, 121, 122, 123, 124, 125, 126, 127, 128, 129, 130, 131, 12] [_, _, _, _, _, _, _, _, _, _, _, _, _, _, _, _] rfl rfl (by kernel_rfl) (by kernel_rfl) (by kernel_rfl) (by kernel_rfl) (by kernel_rfl) ⟨QS (Q_idxAddrP Tryz.underlying192 T191.size (.tmp rfl) At.int (by first | omega | simp <;> omega) (by first | omega | simp <;> omega)) rfl, QS (Q_loadB (.tmp rfl) (by repeat first | exact R0 | apply RT) (Lens.idxO (_) (by first | (simp only [Nat.zero_add]; rfl) | rfl) (by first | omega | simp <;> omega)) T191 (by (try dsimp only) <;> rfl)) rfl, QS (Q_call (rLeft_c _ _ (by first | omega | simp <;> omega)) ⟨(.tmp rfl), (At.k64 (z := 5) (by decide)), trivial⟩) rfl, QS (Q_move (.tmp rfl)) rfl, QS (Q_add32 (.tmp rfl) (.tmp rfl)) rfl, QS (Q_idxAddrP Tryz.underlying192 T191.size (.tmp rfl) At.int (by first | omega | simp <;> omega) (by first | omega | simp <;> omega)) rfl, QS (Q_loadB (.tmp rfl) (by repeat first | exact R0 | apply RT) (Lens.idxO (_) (by first | (simp only [Nat.zero_add]; rfl) | rfl) (by first | omega | simp <;> omega)) T191 (by (try dsimp only) <;> rfl)) rfl, QS (Q_add32 (.tmp rfl) (.tmp rfl)) rfl, QS (Q_move (.tmp rfl)) rfl, QS (Q_add32 (.tmp rfl) (.tmp rfl)) rfl, QS (Q_move (.tmp rfl)) rfl, QS (Q_move (.tmp rfl)) rfl, QS (Q_idxAddrR (α := UInt32) Tryz.underlying220 T191.size (.tmp rfl) (by repeat first | exact R0 | apply RT) (.tmp rfl) (by first | omega | simp <;> omega) (by first | omega | simp <;> omega)) rfl, QS (Q_loadR (α := UInt32) (.tmp rfl) (by repeat first | exact R0 | apply RT) T191 (by first | omega | simp <;> omega)) rfl, QS (Q_add32 (.tmp rfl) (.tmp rfl)) rfl, QS (Q_assign (.tmp rfl)) rfl, trivial⟩ ?_
      refine JNSR ?_
      refine JQ (Q_idxAddrP Tryz.underlying192 T191.size (.tmp rfl) At.int (by first | omega | simp <;> omega) (by first | omega | simp <;> omega)) rfl ?_
      refine JQ (Q_loadB (.tmp rfl) (by repeat first | exact R0 | apply RT) (Lens.idxO (_) (by first | (simp only [Nat.zero_add]; rfl) | rfl) (by first | omega | simp <;> omega)) T191 (by (try dsimp only) <;> rfl)) rfl ?_
      refine JQ (Q_idxAddrP Tryz.underlying192 T191.size (.tmp rfl) At.int (by first | omega | simp <;> omega) (by first | omega | simp <;> omega)) rfl ?_
      refine J_store (.tmp rfl) (.tmp rfl) (by (try dsimp only) <;> rfl) (by repeat first | exact R1 | apply RT) (Lens.idxO (_) (by first | (simp only [Nat.zero_add]; rfl) | rfl) (by first | omega | simp <;> omega)) T191.size ?_
      refine JNSR ?_
      refine JQ (Q_idxAddrP Tryz.underlying192 T191.size (.tmp rfl) At.int (by first | omega | simp <;> omega) (by first | omega | simp <;> omega)) rfl ?_
      refine JQ (Q_loadB (.tmp rfl) (by repeat first | exact R0 | apply RT) (Lens.idxO (_) (by first | (simp only [Nat.zero_add]; rfl) | rfl) (by first | omega | simp <;> omega)) T191 (by (try dsimp only) <;> rfl)) rfl ?_
      refine JQ (Q_idxAddrP Tryz.underlying192 T191.size (.tmp rfl) At.int (by first | omega | simp <;> omega) (by first | omega | simp <;> omega)) rfl ?_
      refine J_store (.tmp rfl) (.tmp rfl) (by (try dsimp only) <;> rfl) (by repeat first | exact R1 | apply RT) (Lens.idxO (_) (by first | (simp only [Nat.zero_add]; rfl) | rfl) (by first | omega | simp <;> omega)) T191.size ?_
      refine JNSR ?_
      refine JQ (Q_idxAddrP Tryz.underlying192 T191.size (.tmp rfl) At.int (by first | omega | simp <;> omega) (by first | omega | simp <;> omega)) rfl ?_
      refine JQ (Q_loadB (.tmp rfl) (by repeat first | exact R0 | apply RT) (Lens.idxO (_) (by first | (simp only [Nat.zero_add]; rfl) | rfl) (by first | omega | simp <;> omega)) T191 (by (try dsimp only) <;> rfl)) rfl ?_
      refine JQ (Q_call (rLeft_c _ _ (by first | omega | simp <;> omega)) ⟨(.tmp rfl), (At.k64 (z := 30) (by decide)), trivial⟩) rfl ?_
      refine JQ (Q_idxAddrP Tryz.underlying192 T191.size (.tmp rfl) At.int (by first | omega | simp <;> omega) (by first | omega | simp <;> omega)) rfl ?_
      refine J_store (.tmp rfl) (.tmp rfl) (by (try dsimp only) <;> rfl) (by repeat first | exact R1 | apply RT) (Lens.idxO (_) (by first | (simp only [Nat.zero_add]; rfl) | rfl) (by first | omega | simp <;> omega)) T191.size ?_
      refine JNSR ?_
      refine JQ (Q_idxAddrP Tryz.underlying192 T191.size (.tmp rfl) At.int (by first | omega | simp <;> omega) (by first | omega | simp <;> omega)) rfl ?_
      refine JQ (Q_loadB (.tmp rfl) (by repeat first | exact R0 | apply RT) (Lens.idxO (_) (by first | (simp only [Nat.zero_add]; rfl) | rfl) (by first | omega | simp <;> omega)) T191 (by (try dsimp only) <;> rfl)) rfl ?_
      refine JQ (Q_idxAddrP Tryz.underlying192 T191.size (.tmp rfl) At.int (by first | omega | simp <;> omega) (by first | omega | simp <;> omega)) rfl ?_
      refine J_store (.tmp rfl) (.tmp rfl) (by (try dsimp only) <;> rfl) (by repeat first | exact R1 | apply RT) (Lens.idxO (_) (by first | (simp only [Nat.zero_add]; rfl) | rfl) (by first | omega | simp <;> omega)) T191.size ?_
      refine JNR ?_
      refine JM rfl rfl ?_
      refine JQ (Q_idxAddrP Tryz.underlying192 T191.size (.tmp rfl) At.int (by first | omega | simp <;> omega) (by first | omega | simp <;> omega)) rfl ?_
      refine J_store (.tmp rfl) (.tmp rfl) (by (try dsimp only) <;> rfl) (by repeat first | exact R1 | apply RT) (Lens.idxO (_) (by first | (simp only [Nat.zero_add]; rfl) | rfl) (by first | omega | simp <;> omega)) T191.size ?_
      refine J_nil ?_
      refine J_blk_normal ?_
      refine J_then_normal ?_
      refine J_region ?_
      refine JM rfl rfl ?_
      refine JQ (Q_addi (.tmp rfl) At.int (by first | omega | simp <;> omega) (by first | omega | simp <;> omega)) rfl ?_
      refine JA rfl rfl ?_
      refine JN ?_
      refine J_genB (tb := 192) (b := b8) (by repeat first | exact R0 | apply RT) (fun x2 => ?_)
      refine J_back ((m5 + 1, x2)) ?_ ?_ ?_ ?_
      · exact ⟨by omega, by simp only; omega⟩
      · exact ⟨fe rfl (by first | rfl | exact vint_eq (by first | omega | simp <;> omega) | exact vsl_eq (by simp) | exact vstr_eq (by simp)), trivial⟩
      · exact ⟨rfl, rfl, rfl, rfl, trivial⟩
      · exact (Has.take (Repl.row (by repeat first | exact R0 | apply RT) (by first | rfl | simp)) (Has.take (Repl.box (by repeat first | exact R0 | apply RT) (by first | rfl | simp)) (Has.take (Repl.box (by repeat first | exact R0 | apply RT) (by first | rfl | simp)) (Has.take (Repl.box (by repeat first | exact R0 | apply RT) (by first | rfl | simp)) Has.nil))))
    try simp only [BS, ne_eq] at h4
    refine JSR ?_
    refine JM rfl rfl ?_
    refine JQ (Q_lss (.tmp rfl) At.int) rfl ?_
    refine JA rfl rfl ?_
    refine JN ?_
    refine J_cond (.tmp rfl) (fun h5 => ?_) (fun h5 => ?_)
    · try simp only [BS, ne_eq] at h5
      refine JSR ?_
      refine JQ (Q_idxAddrP Tryz.underlying192 T191.size (.tmp rfl) At.int (by first | omega | simp <;> omega) (by first | omega | simp <;> omega)) rfl ?_
      refine JQ (Q_loadB (.tmp rfl) (by repeat first | exact R0 | apply RT) (Lens.idxO (_) (by first | (simp only [Nat.zero_add]; rfl) | rfl) (by first | omega | simp <;> omega)) T191 (by (try dsimp only) <;> rfl)) rfl ?_
      refine JQ (Q_idxAddrP Tryz.underlying192 T191.size (.tmp rfl) At.int (by first | omega | simp <;> omega) (by first | omega | simp <;> omega)) rfl ?_
      refine JQ (Q_loadB (.tmp rfl) (by repeat first | exact R0 | apply RT) (Lens.idxO (_) (by first | (simp only [Nat.zero_add]; rfl) | rfl) (by first | omega | simp <;> omega)) T191 (by (try dsimp only) <;> rfl)) rfl ?_
      refine JQ (Q_and32 (.tmp rfl) (.tmp rfl)) rfl ?_
      refine JQ (Q_idxAddrP Tryz.underlying192 T191.size (.tmp rfl) At.int (by first | omega | simp <;> omega) (by first | omega | simp <;> omega)) rfl ?_
      refine JQ (Q_loadB (.tmp rfl) (by repeat first | exact R0 | apply RT) (Lens.idxO (_) (by first | (simp only [Nat.zero_add]; rfl) | rfl) (by first | omega | simp <;> omega)) T191 (by (try dsimp only) <;> rfl)) rfl ?_
      refine JQ (Q_idxAddrP Tryz.underlying192 T191.size (.tmp rfl) At.int (by first | omega | simp <;> omega) (by first | omega | simp <;> omega)) rfl ?_
      refine JQ (Q_loadB (.tmp rfl) (by repeat first | exact R0 | apply RT) (Lens.idxO (_) (by first | (simp only [Nat.zero_add]; rfl) | rfl) (by first | omega | simp <;> omega)) T191 (by (try dsimp only) <;> rfl)) rfl ?_
      refine JQ (Q_and32 (.tmp rfl) (.tmp rfl)) rfl ?_
      refine JQ (Q_or32 (.tmp rfl) (.tmp rfl)) rfl ?_
      refine JQ (Q_idxAddrP Tryz.underlying192 T191.size (.tmp rfl) At.int (by first | omega | simp <;> omega) (by first | omega | simp <;> omega)) rfl ?_
      refine JQ (Q_loadB (.tmp rfl) (by repeat first | exact R0 | apply RT) (Lens.idxO (_) (by first | (simp only [Nat.zero_add]; rfl) | rfl) (by first | omega | simp <;> omega)) T191 (by (try dsimp only) <;> rfl)) rfl ?_
      refine JQ (Q_idxAddrP Tryz.underlying192 T191.size (.tmp rfl) At.int (by first | omega | simp <;> omega) (by first | omega | simp <;> omega)) rfl ?_
      refine JQ (Q_loadB (.tmp rfl) (by repeat first | exact R0 | apply RT) (Lens.idxO (_) (by first | (simp only [Nat.zero_add]; rfl) | rfl) (by first | omega | simp <;> omega)) T191 (by (try dsimp only) <;> rfl)) rfl ?_
      refine JQ (Q_and32 (.tmp rfl) (.tmp rfl)) rfl ?_
      refine JQ (Q_or32 (.tmp rfl) (.tmp rfl)) rfl ?_
      refine JA rfl rfl ?_
      refine JNR ?_
      refine JQ (Q_assign (At.k32 (z := 2400959708) (by decide))) rfl ?_
      refine J_nil ?_
      refine J_blk_normal ?_
      refine J_then_normal ?_
      refine J_seq ?_
      refine J_draw mix 16 [117, 118, 119, 120, 121, 122, 123, 124, 125, 126, 127, 128, 129, 130, 131, 12] [_, _, _, _, _, _, _, _, _, _, _, _, _, _, _, _] rfl rfl (by kernel_rfl) (by kernel_rfl) (by kernel_rfl) (by kernel_rfl) (by kernel_rfl) ⟨QS (Q_idxAddrP Tryz.underlying192 T191.size (.tmp rfl) At.int (by first | omega | simp <;> omega) (by first | omega | simp <;> omega)) rfl, QS (Q_loadB (.tmp rfl) (by repeat first | exact R0 | apply RT) (Lens.idxO (_) (by first | (simp only [Nat.zero_add]; rfl) | rfl) (by first | omega | simp <;> omega)) T191 (by (try dsimp only) <;> rfl)) rfl, QS (Q_call (rLeft_c _ _ (by first | omega | simp <;> omega)) ⟨(.tmp rfl), (At.k64 (z := 5) (by decide)), trivial⟩) rfl, QS (Q_move (.tmp rfl)) rfl, QS (Q_add32 (.tmp rfl) (.tmp rfl)) rfl, QS (Q_idxAddrP Tryz.underlying192 T191.size (.tmp rfl) At.int (by first | omega | simp <;> omega) (by first | omega | simp <;> omega)) rfl, QS (Q_loadB (.tmp rfl) (by repeat first | exact R0 | apply RT) (Lens.idxO (_) (by first | (simp only [Nat.zero_add]; rfl) | rfl) (by first | omega | simp <;> omega)) T191 (by (try dsimp only) <;> rfl)) rfl, QS (Q_add32 (.tmp rfl) (.tmp rfl)) rfl, QS (Q_move (.tmp rfl)) rfl, QS (Q_add32 (.tmp rfl) (.tmp rfl)) rfl, QS (Q_move (.tmp rfl)) rfl, QS (Q_move (.tmp rfl)) rfl, QS (Q_idxAddrR (α := UInt32) Tryz.underlying220 T191.size (.tmp rfl) (by repeat first | exact R0 | apply RT) (.tmp rfl) (by first | omega | simp <;> omega) (by first | omega | simp <;> omega)) rfl, QS (Q_loadR (α := UInt32) (.tmp rfl) (by repeat first | exact R0 | apply RT) T191 (by first | omega | simp <;> omega)) rfl, QS (Q_add32 (.tmp rfl) (.tmp rfl)) rfl, QS (Q_assign (.tmp rfl)) rfl, trivial⟩ ?_
      refine JNSR ?_
      refine JQ (Q_idxAddrP Tryz.underlying192 T191.size (.tmp rfl) At.int (by first | omega | simp <;> omega) (by first | omega | simp <;> omega)) rfl ?_
      refine JQ (Q_loadB (.tmp rfl) (by repeat first | exact R0 | apply RT) (Lens.idxO (_) (by first | (simp only [Nat.zero_add]; rfl) | rfl) (by first | omega | simp <;> omega)) T191 (by (try dsimp only) <;> rfl)) rfl ?_
      refine JQ (Q_idxAddrP Tryz.underlying192 T191.size (.tmp rfl) At.int (by first | omega | simp <;> omega) (by first | omega | simp <;> omega)) rfl ?_
      refine J_store (.tmp rfl) (.tmp rfl) (by (try dsimp only) <;> rfl) (by repeat first | exact R1 | apply RT) (Lens.idxO (_) (by first | (simp only [Nat.zero_add]; rfl) | rfl) (by first | omega | simp <;> omega)) T191.size ?_
      refine JNSR ?_
      refine JQ (Q_idxAddrP Tryz.underlying192 T191.size (.tmp rfl) At.int (by first | omega | simp <;> omega) (by first | omega | simp <;> omega)) rfl ?_
      refine JQ (Q_loadB (.tmp rfl) (by repeat first | exact R0 | apply RT) (Lens.idxO (_) (by first | (simp only [Nat.zero_add]; rfl) | rfl) (by first | omega | simp <;> omega)) T191 (by (try dsimp only) <;> rfl)) rfl ?_
      refine JQ (Q_idxAddrP Tryz.underlying192 T191.size (.tmp rfl) At.int (by first | omega | simp <;> omega) (by first | omega | simp <;> omega)) rfl ?_
      refine J_store (.tmp rfl) (.tmp rfl) (by (try dsimp only) <;> rfl) (by repeat first | exact R1 | apply RT) (Lens.idxO (_) (by first | (simp only [Nat.zero_add]; rfl) | rfl) (by first | omega | simp <;> omega)) T191.size ?_
      refine JNSR ?_
      refine JQ (Q_idxAddrP Tryz.underlying192 T191.size (.tmp rfl) At.int (by first | omega | simp <;> omega) (by first | omega | simp <;> omega)) rfl ?_
      refine JQ (Q_loadB (.tmp rfl) (by repeat first | exact R0 | apply RT) (Lens.idxO (_) (by first | (simp only [Nat.zero_add]; rfl) | rfl) (by first | omega | simp <;> omega)) T191 (by (try dsimp only) <;> rfl)) rfl ?_
      refine JQ (Q_call (rLeft_c _ _ (by first | omega | simp <;> omega)) ⟨(.tmp rfl), (At.k64 (z := 30) (by decide)), trivial⟩) rfl ?_
      refine JQ (Q_idxAddrP Tryz.underlying192 T191.size (.tmp rfl) At.int (by first | omega | simp <;> omega) (by first | omega | simp <;> omega)) rfl ?_
      refine J_store (.tmp rfl) (.tmp rfl) (by (try dsimp only) <;> rfl) (by repeat first | exact R1 | apply RT) (Lens.idxO (_) (by first | (simp only [Nat.zero_add]; rfl) | rfl) (by first | omega | simp <;> omega)) T191.size ?_
      refine JNSR ?_
      refine JQ (Q_idxAddrP Tryz.underlying192 T191.size (.tmp rfl) At.int (by first | omega | simp <;> omega) (by first | omega | simp <;> omega)) rfl ?_
      refine JQ (Q_loadB (.tmp rfl) (by repeat first | exact R0 | apply RT) (Lens.idxO (_) (by first | (simp only [Nat.zero_add]; rfl) | rfl) (by first | omega | simp <;> omega)) T191 (by (try dsimp only) <;> rfl)) rfl ?_
      refine JQ (Q_idxAddrP Tryz.underlying192 T191.size (.tmp rfl) At.int (by first | omega | simp <;> omega) (by first | omega | simp <;> omega)) rfl ?_
      refine J_store (.tmp rfl) (.tmp rfl) (by (try dsimp only) <;> rfl) (by repeat first | exact R1 | apply RT) (Lens.idxO (_) (by first | (simp only [Nat.zero_add]; rfl) | rfl) (by first | omega | simp <;> omega)) T191.size ?_
      refine JNR ?_
      refine JM rfl rfl ?_
      refine JQ (Q_idxAddrP Tryz.underlying192 T191.size (.tmp rfl) At.int (by first | omega | simp <;> omega) (by first | omega | simp <;> omega)) rfl ?_
      refine J_store (.tmp rfl) (.tmp rfl) (by (try dsimp only) <;> rfl) (by repeat first | exact R1 | apply RT) (Lens.idxO (_) (by first | (simp only [Nat.zero_add]; rfl) | rfl) (by first | omega | simp <;> omega)) T191.size ?_
      refine J_nil ?_
      refine J_blk_normal ?_
      refine J_then_normal ?_
      refine J_region ?_
      refine JM rfl rfl ?_
      refine JQ (Q_addi (.tmp rfl) At.int (by first | omega | simp <;> omega) (by first | omega | simp <;> omega)) rfl ?_
      refine JA rfl rfl ?_
      refine JN ?_
      refine J_genB (tb := 192) (b := b8) (by repeat first | exact R0 | apply RT) (fun x2 => ?_)
      refine J_back ((m5 + 1, x2)) ?_ ?_ ?_ ?_
      · exact ⟨by omega, by simp only; omega⟩
      · exact ⟨fe rfl (by first | rfl | exact vint_eq (by first | omega | simp <;> omega) | exact vsl_eq (by simp) | exact vstr_eq (by simp)), trivial⟩
      · exact ⟨rfl, rfl, rfl, rfl, trivial⟩
      · exact (Has.take (Repl.row (by repeat first | exact R0 | apply RT) (by first | rfl | simp)) (Has.take (Repl.box (by repeat first | exact R0 | apply RT) (by first | rfl | simp)) (Has.take (Repl.box (by repeat first | exact R0 | apply RT) (by first | rfl | simp)) (Has.take (Repl.box (by repeat first | exact R0 | apply RT) (by first | rfl | simp)) Has.nil))))
    try simp only [BS, ne_eq] at h5
    refine JSR ?_
    refine JQ (Q_idxAddrP Tryz.underlying192 T191.size (.tmp rfl) At.int (by first | omega | simp <;> omega) (by first | omega | simp <;> omega)) rfl ?_
    refine JQ (Q_loadB (.tmp rfl) (by repeat first | exact R0 | apply RT) (Lens.idxO (_) (by first | (simp only [Nat.zero_add]; rfl) | rfl) (by first | omega | simp <;> omega)) T191 (by (try dsimp only) <;> rfl)) rfl ?_
    refine JQ (Q_idxAddrP Tryz.underlying192 T191.size (.tmp rfl) At.int (by first | omega | simp <;> omega) (by first | omega | simp <;> omega)) rfl ?_
    refine JQ (Q_loadB (.tmp rfl) (by repeat first | exact R0 | apply RT) (Lens.idxO (_) (by first | (simp only [Nat.zero_add]; rfl) | rfl) (by first | omega | simp <;> omega)) T191 (by (try dsimp only) <;> rfl)) rfl ?_
    refine JQ (Q_xor32 (.tmp rfl) (.tmp rfl)) rfl ?_
    refine JQ (Q_idxAddrP Tryz.underlying192 T191.size (.tmp rfl) At.int (by first | omega | simp <;> omega) (by first | omega | simp <;> omega)) rfl ?_
    refine JQ (Q_loadB (.tmp rfl) (by repeat first | exact R0 | apply RT) (Lens.idxO (_) (by first | (simp only [Nat.zero_add]; rfl) | rfl) (by first | omega | simp <;> omega)) T191 (by (try dsimp only) <;> rfl)) rfl ?_
    refine JQ (Q_xor32 (.tmp rfl) (.tmp rfl)) rfl ?_
    refine JA rfl rfl ?_
    refine JNR ?_
    refine JQ (Q_assign (At.k32 (z := 3395469782) (by decide))) rfl ?_
    refine J_nil ?_
    refine J_blk_normal ?_
    refine J_then_normal ?_
    refine J_seq ?_
    refine J_draw mix 16 [117, 118, 119, 120, 121, 122, 123, 124, 125, 126, 127, 128, 129, 130, 131, 12] [_, _, _, _, _, _, _, _, _, _, _, _, _, _, _, _] rfl rfl (by kernel_rfl) (by kernel_rfl) (by kernel_rfl) (by kernel_rfl) (by kernel_rfl) ⟨QS (Q_idxAddrP Tryz.underlying192 T191.size (.tmp rfl) At.int (by first | omega | simp <;> omega) (by first | omega | simp <;> omega)) rfl, QS (Q_loadB (.tmp rfl) (by repeat first | exact R0 | apply RT) (Lens.idxO (_) (by first | (simp only [Nat.zero_add]; rfl) | rfl) (by first | omega | simp <;> omega)) T191 (by (try dsimp only) <;> rfl)) rfl, QS (Q_call (rLeft_c _ _ (by first | omega | simp <;> omega)) ⟨(.tmp rfl), (At.k64 (z := 5) (by decide)), trivial⟩) rfl, QS (Q_move (.tmp rfl)) rfl, QS (Q_add32 (.tmp rfl) (.tmp rfl)) rfl, QS (Q_idxAddrP Tryz.underlying192 T191.size (.tmp rfl) At.int (by first | omega | simp <;> omega) (by first | omega | simp <;> omega)) rfl, QS (Q_loadB (.tmp rfl) (by repeat first | exact R0 | apply RT) (Lens.idxO (_) (by first | (simp only [Nat.zero_add]; rfl) | rfl) (by first | omega | simp <;> omega)) T191 (by (try dsimp only) <;> rfl)) rfl, QS (Q_add32 (.tmp rfl) (.tmp rfl)) rfl, QS (Q_move (.tmp rfl)) rfl, QS (Q_add32 (.tmp rfl) (.tmp rfl)) rfl, QS (Q_move (.tmp rfl)) rfl, QS (Q_move (.tmp rfl)) rfl, QS (Q_idxAddrR (α := UInt32) Tryz.underlying220 T191.size (.tmp rfl) (by repeat first | exact R0 | apply RT) (.tmp rfl) (by first | omega | simp <;> omega) (by first | omega | simp <;> omega)) rfl, QS (Q_loadR (α := UInt32) (.tmp rfl) (by repeat first | exact R0 | apply RT) T191 (by first | omega | simp <;> omega)) rfl, QS (Q_add32 (.tmp rfl) (.tmp rfl)) rfl, QS (Q_assign (.tmp rfl)) rfl, trivial⟩ ?_
    refine JNSR ?_
    refine JQ (Q_idxAddrP Tryz.underlying192 T191.size (.tmp rfl) At.int (by first | omega | simp <;> omega) (by first | omega | simp <;> omega)) rfl ?_
    refine JQ (Q_loadB (.tmp rfl) (by repeat first | exact R0 | apply RT) (Lens.idxO (_) (by first | (simp only [Nat.zero_add]; rfl) | rfl) (by first | omega | simp <;> omega)) T191 (by (try dsimp only) <;> rfl)) rfl ?_
    refine JQ (Q_idxAddrP Tryz.underlying192 T191.size (.tmp rfl) At.int (by first | omega | simp <;> omega) (by first | omega | simp <;> omega)) rfl ?_
    refine J_store (.tmp rfl) (.tmp rfl) (by (try dsimp only) <;> rfl) (by repeat first | exact R1 | apply RT) (Lens.idxO (_) (by first | (simp only [Nat.zero_add]; rfl) | rfl) (by first | omega | simp <;> omega)) T191.size ?_
    refine JNSR ?_
    refine JQ (Q_idxAddrP Tryz.underlying192 T191.size (.tmp rfl) At.int (by first | omega | simp <;> omega) (by first | omega | simp <;> omega)) rfl ?_
    refine JQ (Q_loadB (.tmp rfl) (by repeat first | exact R0 | apply RT) (Lens.idxO (_) (by first | (simp only [Nat.zero_add]; rfl) | rfl) (by first | omega | simp <;> omega)) T191 (by (try dsimp only) <;> rfl)) rfl ?_
    refine JQ (Q_idxAddrP Tryz.underlying192 T191.size (.tmp rfl) At.int (by first | omega | simp <;> omega) (by first | omega | simp <;> omega)) rfl ?_
    refine J_store (.tmp rfl) (.tmp rfl) (by (try dsimp only) <;> rfl) (by repeat first | exact R1 | apply RT) (Lens.idxO (_) (by first | (simp only [Nat.zero_add]; rfl) | rfl) (by first | omega | simp <;> omega)) T191.size ?_
    refine JNSR ?_
    refine JQ (Q_idxAddrP Tryz.underlying192 T191.size (.tmp rfl) At.int (by first | omega | simp <;> omega) (by first | omega | simp <;> omega)) rfl ?_
    refine JQ (Q_loadB (.tmp rfl) (by repeat first | exact R0 | apply RT) (Lens.idxO (_) (by first | (simp only [Nat.zero_add]; rfl) | rfl) (by first | omega | simp <;> omega)) T191 (by (try dsimp only) <;> rfl)) rfl ?_
    refine JQ (Q_call (rLeft_c _ _ (by first | omega | simp <;> omega)) ⟨(.tmp rfl), (At.k64 (z := 30) (by decide)), trivial⟩) rfl ?_
    refine JQ (Q_idxAddrP Tryz.underlying192 T191.size (.tmp rfl) At.int (by first | omega | simp <;> omega) (by first | omega | simp <;> omega)) rfl ?_
    refine J_store (.tmp rfl) (.tmp rfl) (by (try dsimp only) <;> rfl) (by repeat first | exact R1 | apply RT) (Lens.idxO (_) (by first | (simp only [Nat.zero_add]; rfl) | rfl) (by first | omega | simp <;> omega)) T191.size ?_
    refine JNSR ?_
    refine JQ (Q_idxAddrP Tryz.underlying192 T191.size (.tmp rfl) At.int (by first | omega | simp <;> omega) (by first | omega | simp <;> omega)) rfl ?_
    refine JQ (Q_loadB (.tmp rfl) (by repeat first | exact R0 | apply RT) (Lens.idxO (_) (by first | (simp only [Nat.zero_add]; rfl) | rfl) (by first | omega | simp <;> omega)) T191 (by (try dsimp only) <;> rfl)) rfl ?_
    refine JQ (Q_idxAddrP Tryz.underlying192 T191.size (.tmp rfl) At.int (by first | omega | simp <;> omega) (by first | omega | simp <;> omega)) rfl ?_
    refine J_store (.tmp rfl) (.tmp rfl) (by (try dsimp only) <;> rfl) (by repeat first | exact R1 | apply RT) (Lens.idxO (_) (by first | (simp only [Nat.zero_add]; rfl) | rfl) (by first | omega | simp <;> omega)) T191.size ?_
    refine JNR ?_
    refine JM rfl rfl ?_
    refine JQ (Q_idxAddrP Tryz.underlying192 T191.size (.tmp rfl) At.int (by first | omega | simp <;> omega) (by first | omega | simp <;> omega)) rfl ?_
    refine J_store (.tmp rfl) (.tmp rfl) (by (try dsimp only) <;> rfl) (by repeat first | exact R1 | apply RT) (Lens.idxO (_) (by first | (simp only [Nat.zero_add]; rfl) | rfl) (by first | omega | simp <;> omega)) T191.size ?_
    refine J_nil ?_
    refine J_blk_normal ?_
    refine J_then_normal ?_
    refine J_region ?_
    refine JM rfl rfl ?_
    refine JQ (Q_addi (.tmp rfl) At.int (by first | omega | simp <;> omega) (by first | omega | simp <;> omega)) rfl ?_
    refine JA rfl rfl ?_
    refine JN ?_
    refine J_genB (tb := 192) (b := b8) (by repeat first | exact R0 | apply RT) (fun x2 => ?_)
    refine J_back ((m5 + 1, x2)) ?_ ?_ ?_ ?_
    · exact ⟨by omega, by simp only; omega⟩
    · exact ⟨fe rfl (by first | rfl | exact vint_eq (by first | omega | simp <;> omega) | exact vsl_eq (by simp) | exact vstr_eq (by simp)), trivial⟩
    · exact ⟨rfl, rfl, rfl, rfl, trivial⟩
    · exact (Has.take (Repl.row (by repeat first | exact R0 | apply RT) (by first | rfl | simp)) (Has.take (Repl.box (by repeat first | exact R0 | apply RT) (by first | rfl | simp)) (Has.take (Repl.box (by repeat first | exact R0 | apply RT) (by first | rfl | simp)) (Has.take (Repl.box (by repeat first | exact R0 | apply RT) (by first | rfl | simp)) Has.nil))))
  try simp only [BS, ne_eq] at h2
  refine J_exit ?_
  refine J_then_exit ?_
  refine J_then_exit ?_
  refine J_blk_out ?_
  refine J_then_normal ?_
  refine J_seq ?_
  refine JSR ?_
  refine JQ (Q_assign At.int) rfl ?_
  refine JN ?_
  refine J_block ?_
  refine J_loopU (ι := Nat × Arr 5 UInt32) (fun q => match q with | (m6, h6) => m6 ≤ 5) (fun q => match q with | (m6, h6) => [(13, VInt .i64 (m6 : Nat))]) [(2, _), (4, _), (8, _)] (fun q => match q with | (m6, h6) => [BoxR 192 b2 h6, BoxR 192 b8 x, BoxR 192 b4 (GoZero.z : Arr 5 UInt32)]) (fun q => match q with | (m6, h6) => 5 - m6) ((0, h)) (by first | omega | simp <;> omega) ⟨fe rfl (by first | rfl | exact vint_eq (by first | omega | simp <;> omega) | exact vsl_eq (by simp) | exact vstr_eq (by simp)), trivial⟩ ⟨rfl, rfl, rfl, trivial⟩ (Has.take (Repl.box (by repeat first | exact R0 | apply RT) (by first | rfl | simp)) (Has.take (Repl.box (by repeat first | exact R0 | apply RT) (by first | rfl | simp)) (Has.take (Repl.box (by repeat first | exact R0 | apply RT) (by first | rfl | simp)) Has.nil))) (fun q_3 hq_3 => ?_)
  obtain ⟨m6, h6⟩ := q_3
  try dsimp only at hq_3
  obtain hm6 := hq_3
  refine J_seq ?_
  refine JSR ?_
  refine JM rfl rfl ?_
  refine JQ (Q_lss (.tmp rfl) At.int) rfl ?_
  refine JN ?_
  refine J_cond (.tmp rfl) (fun h6 => ?_) (fun h6 => ?_)
  · try simp only [BS, ne_eq] at h6
    refine J_skip ?_
    refine J_then_normal ?_
    refine J_seq ?_
    refine J_block ?_
    refine J_draw mix 9 [151, 152, 153, 154, 155, 156, 157, 158, 159] [_, _, _, _, _, _, _, _, _] rfl rfl (by kernel_rfl) (by kernel_rfl) (by kernel_rfl) (by kernel_rfl) (by kernel_rfl) ⟨QS (Q_move (.tmp rfl)) rfl, QS (Q_move (.tmp rfl)) rfl, QS (Q_idxAddrP Tryz.underlying192 T191.size (.tmp rfl) (.tmp rfl) (by first | omega | simp <;> omega) (by first | omega | simp <;> omega)) rfl, QS (Q_loadB (.tmp rfl) (by repeat first | exact R0 | apply RT) (Lens.idxO (_) (by first | (simp only [Nat.zero_add]; rfl) | rfl) (by first | omega | simp <;> omega)) T191 (by (try dsimp only) <;> rfl)) rfl, QS (Q_move (.tmp rfl)) rfl, QS (Q_idxAddrP Tryz.underlying192 T191.size (.tmp rfl) (.tmp rfl) (by first | omega | simp <;> omega) (by first | omega | simp <;> omega)) rfl, QS (Q_loadB (.tmp rfl) (by repeat first | exact R0 | apply RT) (Lens.idxO (_) (by first | (simp only [Nat.zero_add]; rfl) | rfl) (by first | omega | simp <;> omega)) T191 (by (try dsimp only) <;> rfl)) rfl, QS (Q_add32 (.tmp rfl) (.tmp rfl)) rfl, QS (Q_idxAddrP Tryz.underlying192 T191.size (.tmp rfl) (.tmp rfl) (by first | omega | simp <;> omega) (by first | omega | simp <;> omega)) rfl, trivial⟩ ?_
    refine J_store (.tmp rfl) (.tmp rfl) (by (try dsimp only) <;> rfl) (by repeat first | exact R1 | apply RT) (Lens.idxO (_) (by first | (simp only [Nat.zero_add]; rfl) | rfl) (by first | omega | simp <;> omega)) T191.size ?_
    refine J_nil ?_
    refine J_blk_normal ?_
    refine J_then_normal ?_
    refine J_region ?_
    refine JM rfl rfl ?_
    refine JQ (Q_addi (.tmp rfl) At.int (by first | omega | simp <;> omega) (by first | omega | simp <;> omega)) rfl ?_
    refine JA rfl rfl ?_
    refine JN ?_
    refine J_genB (tb := 192) (b := b2) (by repeat first | exact R0 | apply RT) (fun h7 => ?_)
    refine J_back ((m6 + 1, h7)) ?_ ?_ ?_ ?_
    · exact ⟨by omega, by simp only; omega⟩
    · exact ⟨fe rfl (by first | rfl | exact vint_eq (by first | omega | simp <;> omega) | exact vsl_eq (by simp) | exact vstr_eq (by simp)), trivial⟩
    · exact ⟨rfl, rfl, rfl, trivial⟩
    · exact (Has.take (Repl.box (by repeat first | exact R0 | apply RT) (by first | rfl | simp)) (Has.take (Repl.box (by repeat first | exact R0 | apply RT) (by first | rfl | simp)) (Has.take (Repl.box (by repeat first | exact R0 | apply RT) (by first | rfl | simp)) Has.nil)))
  try simp only [BS, ne_eq] at h6
  refine J_exit ?_
  refine J_then_exit ?_
  refine J_then_exit ?_
  refine J_blk_out ?_
  refine J_then_normal ?_
  refine JSR ?_
  refine JQ (Q_loadB (.tmp rfl) (by repeat first | exact R0 | apply RT) Lens.id T192 (by (try dsimp only) <;> rfl)) rfl ?_
  refine J_store (.tmp rfl) (.tmp rfl) (by (try dsimp only) <;> rfl) (by repeat first | exact R1 | apply RT) Lens.id T192.size ?_
  refine JN ?_
  refine J_retc ?_
  exact J_ret1 rfl (ResAt.box rfl (by repeat first | exact R0 | apply RT) T192) () trivial Split.nil (fun w T v hv => ⟨_, trivial, hv⟩)
theorem rSum_v (b : Bytes) (hb : b.length ≤ 1048800) : FnP Tryz.prog 80 [Sl b] (VEx (fun _ : Oid => True) V) := by
  refine FnP_intro (by kernel_rfl) Tryz.func80 rfl Tryz.ntmps80 rfl (fun e => ?_)
  refine JSR ?_
  refine J_alloc Z37 rfl (fun b2 => ?_)
  refine JNSR ?_
  refine J_buildRow (α := UInt8) E5 Tryz.underlying23 [] [] rfl rfl trivial (Nat.le_of_ble_eq_true rfl) rfl (fun v10 => ?_)
  refine JM rfl rfl ?_
  refine J_append (α := UInt8) E5 Tryz.underlying23 (.tmp rfl) (.tmp rfl) (by repeat first | exact R0 | apply RT) (by first | omega | (simp; omega)) (by first | (simp only [maxLen]; omega) | (simp [maxLen]; omega)) rfl (fun v12 => ?_)
  refine JA rfl rfl ?_
  refine JNSR ?_
  refine JM rfl rfl ?_
  refine JQ (Q_buildSlice (α := UInt8) E5 Tryz.underlying23 [.const (.int .u8 128)] [_] rfl rfl ⟨(At.k8 (z := 128) (by decide)), trivial⟩ (Nat.le_of_ble_eq_true rfl)) rfl ?_
  refine J_append (α := UInt8) E5 Tryz.underlying23 (.tmp rfl) (.tmp rfl) (by repeat first | exact R0 | apply RT) (by first | omega | (simp; omega)) (by first | (simp only [maxLen]; omega) | (simp [maxLen]; omega)) rfl (fun v15 => ?_)
  refine JA rfl rfl ?_
  refine JN ?_
  refine J_seq ?_
  refine J_block ?_
  refine J_loopU (ι := Bytes × Value) (fun q => match q with | (l, u) => l.length + (120 - l.length % 64) % 64 ≤ b.length + 70) (fun q => match q with | (l, u) => [(3, Is u)]) [(0, _), (2, _)] (fun q => match q with | (l, u) => [RowR 5 u l, BoxR 37 b2 (GoZero.z : Oid)]) (fun q => match q with | (l, u) => (120 - l.length % 64) % 64) (([] ++ b ++ [UInt8.ofNat 128], v15)) (by simp; omega) ⟨fe rfl (by first | rfl | exact vint_eq (by first | omega | simp <;> omega) | exact vsl_eq (by simp) | exact vstr_eq (by simp)), trivial⟩ ⟨rfl, rfl, trivial⟩ (Has.take (Repl.row (by repeat first | exact R0 | apply RT) (by first | rfl | simp)) (Has.take (Repl.box (by repeat first | exact R0 | apply RT) (by first | rfl | simp)) Has.nil)) (fun q hq => ?_)
  obtain ⟨l, u⟩ := q
  try dsimp only at hq
  obtain hll := hq
  refine J_seq ?_
  refine JSR ?_
  refine JM rfl rfl ?_
  refine JQ (Q_lenR Tryz.underlying23 rfl (.tmp rfl) (by repeat first | exact R0 | apply RT)) rfl ?_
  refine JQ (Q_remi (.tmp rfl) At.int (by first | omega | simp <;> omega) (by first | omega | simp <;> omega)) rfl ?_
  refine JQ (Q_neq (.tmp rfl) At.int) rfl ?_
  refine JN ?_
  refine J_cond (.tmp rfl) (fun h0 => ?_) (fun h0 => ?_)
  · try simp only [BS, ne_eq] at h0
    refine J_skip ?_
    refine J_then_normal ?_
    refine J_block ?_
    refine J_region ?_
    refine JM rfl rfl ?_
    refine JQ (Q_buildSlice (α := UInt8) E5 Tryz.underlying23 [.const (.int .u8 0)] [_] rfl rfl ⟨(At.k8 (z := 0) (by decide)), trivial⟩ (Nat.le_of_ble_eq_true rfl)) rfl ?_
    refine J_append (α := UInt8) E5 Tryz.underlying23 (.tmp rfl) (.tmp rfl) (by repeat first | exact R0 | apply RT) (by first | omega | (simp; omega)) (by first | (simp only [maxLen]; omega) | (simp [maxLen]; omega)) rfl (fun v22 => ?_)
    refine JA rfl rfl ?_
    refine J_nil ?_
    refine J_blk_normal ?_
    refine J_then_normal ?_
    refine J_back ((l ++ [UInt8.ofNat 0], v22)) ?_ ?_ ?_ ?_
    · exact ⟨by simp; omega, by simp; omega⟩
    · exact ⟨fe rfl (by first | rfl | exact vint_eq (by first | omega | simp <;> omega) | exact vsl_eq (by simp) | exact vstr_eq (by simp)), trivial⟩
    · exact ⟨rfl, rfl, trivial⟩
    · exact (Has.take (Repl.row (by repeat first | exact R0 | apply RT) (by first | rfl | simp)) (Has.take (Repl.box (by repeat first | exact R0 | apply RT) (by first | rfl | simp)) Has.nil))
  try simp only [BS, ne_eq] at h0
  refine J_exit ?_
  refine J_then_exit ?_
  refine J_then_exit ?_
  refine J_blk_out ?_
  refine J_then_normal ?_
  refine JSR ?_
  refine JM rfl rfl ?_
  refine JQ (Q_len Tryz.underlying23 rfl (.tmp rfl)) rfl ?_
  refine JQ (Q_to64 (.tmp rfl) (by kernel_rfl) Tryz.underlying190) rfl ?_
  refine JQ (Q_mul64 (.tmp rfl) (At.k64 (z := 8) (by decide))) rfl ?_
  refine JA rfl rfl ?_
  refine JNSSR ?_
  refine JQ (Q_assign At.int) rfl ?_
  refine JN ?_
  refine J_block ?_
  have hl56 : l.length % 64 = 56 := (by first | omega | simp <;> omega)
  refine J_loopU (ι := Nat × Bytes × Value) (fun q => match q with | (k, l1, u1) => k ≤ 8 ∧ l1.length + k = l.length + 8) (fun q => match q with | (k, l1, u1) => [(5, VInt .i64 ((k : Int) - 1)), (3, Is u1)]) [(2, _), (4, _)] (fun q => match q with | (k, l1, u1) => [RowR 5 u1 l1, BoxR 37 b2 (GoZero.z : Oid)]) (fun q => match q with | (k, l1, u1) => k) ((8, l, u)) ⟨by omega, by omega⟩ ⟨fe rfl (by first | rfl | exact vint_eq (by first | omega | simp <;> omega) | exact vsl_eq (by simp) | exact vstr_eq (by simp)), fe rfl (by first | rfl | exact vint_eq (by first | omega | simp <;> omega) | exact vsl_eq (by simp) | exact vstr_eq (by simp)), trivial⟩ ⟨rfl, rfl, trivial⟩ (Has.take (Repl.row (by repeat first | exact R0 | apply RT) (by first | rfl | simp)) (Has.take (Repl.box (by repeat first | exact R0 | apply RT) (by first | rfl | simp)) Has.nil)) (fun q_1 hq_1 => ?_)
  obtain ⟨k, l1, u1⟩ := q_1
  try dsimp only at hq_1
  obtain ⟨hk, hl1⟩ := hq_1
  refine J_seq ?_
  refine JSR ?_
  refine JM rfl rfl ?_
  refine JQ (Q_geq (.tmp rfl) At.int) rfl ?_
  refine JN ?_
  refine J_cond (.tmp rfl) (fun h1 => ?_) (fun h1 => ?_)
  · try simp only [BS, ne_eq] at h1
    refine J_skip ?_
    refine J_then_normal ?_
    refine J_seq ?_
    refine J_block ?_
    refine J_region ?_
    refine JM rfl rfl ?_
    refine JM rfl rfl ?_
    refine JM rfl rfl ?_
    refine JQ (Q_to64 (.tmp rfl) (by kernel_rfl) Tryz.underlying163) rfl ?_
    refine JQ (Q_mul64 (At.k64 (z := 8) (by decide)) (.tmp rfl)) rfl ?_
    refine JQ (Q_shr (.tmp rfl) (.tmp rfl) (by first | omega | simp <;> omega)) rfl ?_
    refine JQ (Q_to8 (.tmp rfl) (by kernel_rfl) Tryz.underlying5) rfl ?_
    refine JQ (Q_buildSlice (α := UInt8) E5 Tryz.underlying23 [.tmp 37] [_] rfl rfl ⟨(.tmp rfl), trivial⟩ (Nat.le_of_ble_eq_true rfl)) rfl ?_
    refine J_append (α := UInt8) E5 Tryz.underlying23 (.tmp rfl) (.tmp rfl) (by repeat first | exact R0 | apply RT) (by first | omega | (simp; omega)) (by first | (simp only [maxLen]; omega) | (simp [maxLen]; omega)) rfl (fun v39 => ?_)
    refine JA rfl rfl ?_
    refine J_nil ?_
    refine J_blk_normal ?_
    refine J_then_normal ?_
    refine J_region ?_
    refine JM rfl rfl ?_
    refine JQ (Q_subi (.tmp rfl) At.int (by first | omega | simp <;> omega) (by first | omega | simp <;> omega)) rfl ?_
    refine JA rfl rfl ?_
    refine JN ?_
    refine J_gen (el := 5) (v := v39) (by repeat first | exact R0 | apply RT) (fun l2 hl2 => ?_)
    simp only [List.length_append, List.length_cons, List.length_nil] at hl2
    refine J_back ((k - 1, l2, v39)) ?_ ?_ ?_ ?_
    · exact ⟨⟨by omega, by omega⟩, by simp only; omega⟩
    · exact ⟨fe rfl (by first | rfl | exact vint_eq (by first | omega | simp <;> omega) | exact vsl_eq (by simp) | exact vstr_eq (by simp)), fe rfl (by first | rfl | exact vint_eq (by first | omega | simp <;> omega) | exact vsl_eq (by simp) | exact vstr_eq (by simp)), trivial⟩
    · exact ⟨rfl, rfl, trivial⟩
    · exact (Has.take (Repl.row (by repeat first | exact R0 | apply RT) (by first | rfl | simp)) (Has.take (Repl.box (by repeat first | exact R0 | apply RT) (by first | rfl | simp)) Has.nil))
  try simp only [BS, ne_eq] at h1
  refine J_exit ?_
  refine J_then_exit ?_
  refine J_then_exit ?_
  refine J_blk_out ?_
  refine J_then_normal ?_
  refine JSR ?_
  refine JQ (Q_build Z192 T192.agg (by kernel_rfl) (BP.cons (by kernel_rfl) (Lens.idx 0 (by decide) rfl) (At.k32 (z := 1732584193) (by decide)) (BP.cons (by kernel_rfl) (Lens.idx 1 (by decide) rfl) (At.k32 (z := 4023233417) (by decide)) (BP.cons (by kernel_rfl) (Lens.idx 2 (by decide) rfl) (At.k32 (z := 2562383102) (by decide)) (BP.cons (by kernel_rfl) (Lens.idx 3 (by decide) rfl) (At.k32 (z := 271733878) (by decide)) (BP.cons (by kernel_rfl) (Lens.idx 4 (by decide) rfl) (At.k32 (z := 3285377520) (by decide)) BP.nil)))))) rfl ?_
  refine J_alloc Z192 rfl (fun b6 => ?_)
  refine J_store (.tmp rfl) (.tmp rfl) (by (try dsimp only) <;> rfl) (by repeat first | exact R1 | apply RT) Lens.id T192.size ?_
  refine JN ?_
  refine J_seq ?_
  refine J_seq ?_
  refine J_freezeR (sl := 3) (by repeat first | exact R0 | apply RT) rfl ?_
  have hl64 : l1.length % 64 = 0 := (by first | omega | simp <;> omega)
  refine J_region ?_
  refine JQ (Q_assign At.int) rfl ?_
  refine JN ?_
  refine J_block ?_
  refine J_loopU (ι := Nat × Arr 5 UInt32) (fun q => match q with | (j, hs) => 64 * j ≤ l1.length) (fun q => match q with | (j, hs) => [(7, VInt .i64 (64 * (j : Nat) : Int))]) [(2, _), (3, _), (6, _)] (fun q => match q with | (j, hs) => [BoxR 192 b6 hs, BoxR 37 b2 (GoZero.z : Oid)]) (fun q => match q with | (j, hs) => l1.length - 64 * j) ((0, _)) (by first | omega | simp <;> omega) ⟨fe rfl (by first | rfl | exact vint_eq (by first | omega | simp <;> omega) | exact vsl_eq (by simp) | exact vstr_eq (by simp)), trivial⟩ ⟨rfl, rfl, rfl, trivial⟩ (Has.take (Repl.box (by repeat first | exact R0 | apply RT) (by first | rfl | simp)) (Has.take (Repl.box (by repeat first | exact R0 | apply RT) (by first | rfl | simp)) Has.nil)) (fun q_2 hq_2 => ?_)
  obtain ⟨j, hs⟩ := q_2
  try dsimp only at hq_2
  obtain hj := hq_2
  refine J_seq ?_
  refine JSR ?_
  refine JM rfl rfl ?_
  refine JM rfl rfl ?_
  refine JQ (Q_len Tryz.underlying23 rfl (.tmp rfl)) rfl ?_
  refine JQ (Q_lss (.tmp rfl) (.tmp rfl)) rfl ?_
  refine JN ?_
  refine J_cond (.tmp rfl) (fun h2 => ?_) (fun h2 => ?_)
  · try simp only [BS, ne_eq] at h2
    refine J_skip ?_
    refine J_then_normal ?_
    refine J_seq ?_
    refine J_block ?_
    refine J_draw mix 7 [47, 48, 49, 50, 51, 52, 53] [_, _, _, _, _, _, _] rfl rfl (by kernel_rfl) (by kernel_rfl) (by kernel_rfl) (by kernel_rfl) (by kernel_rfl) ⟨QS (Q_loadB (.tmp rfl) (by repeat first | exact R0 | apply RT) Lens.id T192 (by (try dsimp only) <;> rfl)) rfl, QS (Q_move (.tmp rfl)) rfl, QS (Q_move (.tmp rfl)) rfl, QS (Q_move (.tmp rfl)) rfl, QS (Q_addi (.tmp rfl) At.int (by first | omega | simp <;> omega) (by first | omega | simp <;> omega)) rfl, QS (Q_slice Tryz.underlying23 T5.size (.tmp rfl) ⟨_, (.tmp rfl)⟩ ⟨_, (.tmp rfl)⟩ (by first | omega | simp <;> omega) (by first | omega | simp <;> omega) (by first | omega | simp <;> omega)) rfl, QS (Q_call (rBlock_v _ _ (by first | omega | simp <;> omega)) ⟨(.tmp rfl), (.tmp rfl), trivial⟩) rfl, trivial⟩ ?_
    refine J_open (t := 53) rfl (fun hx2 _ => ?_)
    refine J_store (.tmp rfl) (.tmp rfl) (by (try dsimp only) <;> rfl) (by repeat first | exact R1 | apply RT) Lens.id T192.size ?_
    refine J_nil ?_
    refine J_blk_normal ?_
    refine J_then_normal ?_
    refine J_region ?_
    refine JM rfl rfl ?_
    refine JQ (Q_addi (.tmp rfl) At.int (by first | omega | simp <;> omega) (by first | omega | simp <;> omega)) rfl ?_
    refine JA rfl rfl ?_
    refine JN ?_
    refine J_back ((j + 1, hx2)) ?_ ?_ ?_ ?_
    · exact ⟨by omega, by simp only; omega⟩
    · exact ⟨fe rfl (by first | rfl | exact vint_eq (by first | omega | simp <;> omega) | exact vsl_eq (by simp) | exact vstr_eq (by simp)), trivial⟩
    · exact ⟨rfl, rfl, rfl, trivial⟩
    · exact (Has.take (Repl.box (by repeat first | exact R0 | apply RT) (by first | rfl | simp)) (Has.take (Repl.box (by repeat first | exact R0 | apply RT) (by first | rfl | simp)) Has.nil))
  try simp only [BS, ne_eq] at h2
  refine J_exit ?_
  refine J_then_exit ?_
  refine J_then_exit ?_
  refine J_blk_out ?_
  refine J_then_normal ?_
  refine JSR ?_
  refine J_alloc Z37 rfl (fun b8 => ?_)
  refine JNSSR ?_
  refine JQ (Q_assign At.int) rfl ?_
  refine JN ?_
  refine J_block ?_
  refine J_loopU (ι := Nat × Oid) (fun q => match q with | (m, o) => m ≤ 20) (fun q => match q with | (m, o) => [(9, VInt .i64 (m : Nat))]) [(2, _), (6, _), (8, _)] (fun q => match q with | (m, o) => [BoxR 192 b6 hs, BoxR 37 b8 o, BoxR 37 b2 (GoZero.z : Oid)]) (fun q => match q with | (m, o) => 20 - m) ((0, GoZero.z)) (by first | omega | simp <;> omega) ⟨fe rfl (by first | rfl | exact vint_eq (by first | omega | simp <;> omega) | exact vsl_eq (by simp) | exact vstr_eq (by simp)), trivial⟩ ⟨rfl, rfl, rfl, trivial⟩ (Has.take (Repl.box (by repeat first | exact R0 | apply RT) (by first | rfl | simp)) (Has.take (Repl.box (by repeat first | exact R0 | apply RT) (by first | rfl | simp)) (Has.take (Repl.box (by repeat first | exact R0 | apply RT) (by first | rfl | simp)) Has.nil))) (fun q_3 hq_3 => ?_)
  obtain ⟨m, o⟩ := q_3
  try dsimp only at hq_3
  obtain hm := hq_3
  refine J_seq ?_
  refine JSR ?_
  refine JM rfl rfl ?_
  refine JQ (Q_lss (.tmp rfl) At.int) rfl ?_
  refine JN ?_
  refine J_cond (.tmp rfl) (fun h3 => ?_) (fun h3 => ?_)
  · try simp only [BS, ne_eq] at h3
    refine J_skip ?_
    refine J_then_normal ?_
    refine J_seq ?_
    refine J_block ?_
    refine J_region ?_
    refine JM rfl rfl ?_
    refine JM rfl rfl ?_
    refine JQ (Q_quoi (.tmp rfl) At.int (by first | omega | simp <;> omega) (by first | omega | simp <;> omega) (by first | omega | simp <;> omega)) rfl ?_
    refine JQ (Q_idxAddrP Tryz.underlying192 T191.size (.tmp rfl) (.tmp rfl) (by first | omega | simp <;> omega) (by first | omega | simp <;> omega)) rfl ?_
    refine JQ (Q_loadB (.tmp rfl) (by repeat first | exact R0 | apply RT) (Lens.idxO (_) (by first | (simp only [Nat.zero_add]; rfl) | rfl) (by first | omega | simp <;> omega)) T191 (by (try dsimp only) <;> rfl)) rfl ?_
    refine JM rfl rfl ?_
    refine JQ (Q_remi (.tmp rfl) At.int (by first | omega | simp <;> omega) (by first | omega | simp <;> omega)) rfl ?_
    refine JQ (Q_to64 (.tmp rfl) (by kernel_rfl) Tryz.underlying163) rfl ?_
    refine JQ (Q_mul64 (At.k64 (z := 8) (by decide)) (.tmp rfl)) rfl ?_
    refine JQ (Q_sub64 (At.k64 (z := 24) (by decide)) (.tmp rfl)) rfl ?_
    refine JQ (Q_shr (.tmp rfl) (.tmp rfl) (by first | omega | simp <;> omega)) rfl ?_
    refine JQ (Q_to8 (.tmp rfl) (by kernel_rfl) Tryz.underlying5) rfl ?_
    refine JQ (Q_idxAddrP Tryz.underlying37 T5.size (.tmp rfl) (.tmp rfl) (by first | omega | simp <;> omega) (by first | omega | simp <;> omega)) rfl ?_
    refine J_store (.tmp rfl) (.tmp rfl) (by (try dsimp only) <;> rfl) (by repeat first | exact R1 | apply RT) (Lens.idxO (_) (by first | (simp only [Nat.zero_add]; rfl) | rfl) (by first | omega | simp <;> omega)) T5.size ?_
    refine J_nil ?_
    refine J_blk_normal ?_
    refine J_then_normal ?_
    refine J_region ?_
    refine JM rfl rfl ?_
    refine JQ (Q_addi (.tmp rfl) At.int (by first | omega | simp <;> omega) (by first | omega | simp <;> omega)) rfl ?_
    refine JA rfl rfl ?_
    refine JN ?_
    refine J_genB (tb := 37) (b := b8) (by repeat first | exact R0 | apply RT) (fun o2 => ?_)
    refine J_back ((m + 1, o2)) ?_ ?_ ?_ ?_
    · exact ⟨by omega, by simp only; omega⟩
    · exact ⟨fe rfl (by first | rfl | exact vint_eq (by first | omega | simp <;> omega) | exact vsl_eq (by simp) | exact vstr_eq (by simp)), trivial⟩
    · exact ⟨rfl, rfl, rfl, trivial⟩
    · exact (Has.take (Repl.box (by repeat first | exact R0 | apply RT) (by first | rfl | simp)) (Has.take (Repl.box (by repeat first | exact R0 | apply RT) (by first | rfl | simp)) (Has.take (Repl.box (by repeat first | exact R0 | apply RT) (by first | rfl | simp)) Has.nil)))
  try simp only [BS, ne_eq] at h3
  refine J_exit ?_
  refine J_then_exit ?_
  refine J_then_exit ?_
  refine J_blk_out ?_
  refine J_then_normal ?_
  refine JSR ?_
  refine JQ (Q_loadB (.tmp rfl) (by repeat first | exact R0 | apply RT) Lens.id T37 (by (try dsimp only) <;> rfl)) rfl ?_
  refine J_store (.tmp rfl) (.tmp rfl) (by (try dsimp only) <;> rfl) (by repeat first | exact R1 | apply RT) Lens.id T37.size ?_
  refine JN ?_
  refine J_retc ?_
  exact J_ret1 rfl (ResAt.box rfl (by repeat first | exact R0 | apply RT) T37) () trivial Split.nil (fun w T v hv => ⟨_, trivial, hv⟩)
theorem rCanon_c (k : Int) (b : Bytes) (hb : b.length ≤ 1048576) : FnP Tryz.prog 81 [VInt .i64 k, Sl b] (Sl (canonB k b)) := by
  have hw := wordB_len k
  have hi : (Lib.itoa b.length).length ≤ 21 := Lib.itoa_length_le _ (by omega) (by omega)
  have hd : Lib.itoa ((b.length : Nat) : Int) = Lib.decDigits b.length := by unfold Lib.itoa; rw [if_neg (by omega)]; rfl
  rw [hd] at hi
  refine FnP_intro (by kernel_rfl) Tryz.func81 rfl Tryz.ntmps81 rfl (fun e => ?_)
  refine JSR ?_
  refine JQ (Q_assign (At.nils (α := UInt8))) rfl ?_
  refine JNSSR ?_
  refine JM rfl rfl ?_
  refine JQ (Q_call (rWord_c _) ⟨(.tmp rfl), trivial⟩) rfl ?_
  refine JQ (Q_eqls (.tmp rfl) At.str) rfl ?_
  refine JN ?_
  refine J_cond (.tmp rfl) (fun h0 => ?_) (fun h0 => ?_)
  · try simp only [BS, ne_eq] at h0
    refine JSR ?_
    refine JQ (Q_assign (At.nils (α := UInt8))) rfl ?_
    refine JN ?_
    refine J_retc ?_
    refine J_then_ret ?_
    exact J_ret1 rfl (ResAt.tmp rfl) () trivial Split.nil (imp_eq (vsl_eq (by unfold canonB; rw [if_pos h0])))
  try simp only [BS, ne_eq] at h0
  refine J_skip ?_
  refine J_then_normal ?_
  refine JSR ?_
  refine JM rfl rfl ?_
  refine JQ (Q_call (rWord_c _) ⟨(.tmp rfl), trivial⟩) rfl ?_
  refine JQ (Q_cat (.tmp rfl) At.str (by simp; omega)) rfl ?_
  refine JM rfl rfl ?_
  refine JQ (Q_len Tryz.underlying23 rfl (.tmp rfl)) rfl ?_
  refine JQ (Q_call (rDecimal_c _ (by first | omega | simp <;> omega)) ⟨(.tmp rfl), trivial⟩) rfl ?_
  refine JQ (Q_cat (.tmp rfl) (.tmp rfl) (by simp; omega)) rfl ?_
  refine J_convM Tryz.underlying9 Tryz.underlying23 Tryz.underlying5 (by simp [maxLen]; omega) (.tmp rfl) rfl (fun v16 => ?_)
  refine JQ (Q_buildSlice (α := UInt8) E5 Tryz.underlying23 [.const (.int .u8 0)] [_] rfl rfl ⟨(At.k8 (z := 0) (by decide)), trivial⟩ (Nat.le_of_ble_eq_true rfl)) rfl ?_
  refine J_appendA E5 Tryz.underlying23 (.tmp rfl) (.tmp rfl) (by repeat first | exact R0 | apply RT) (by simp; omega) rfl (fun v18 => ?_)
  refine JA rfl rfl ?_
  refine JNSR ?_
  refine JM rfl rfl ?_
  refine JM rfl rfl ?_
  refine J_appendA E5 Tryz.underlying23 (.tmp rfl) (.tmp rfl) (by repeat first | exact R0 | apply RT) (by simp; omega) rfl (fun v21 => ?_)
  refine J_freezeRM (sl := 21) (by repeat first | exact R0 | apply RT) rfl ?_
  refine JA rfl rfl ?_
  refine JN ?_
  refine J_retc ?_
  exact J_ret1 rfl (ResAt.tmp rfl) () trivial Split.nil (imp_eq (vsl_eq (by unfold canonB; rw [if_neg h0, hd]; simp)))
theorem rID_v (k : Int) (b : Bytes) (hb : b.length ≤ 1048576) : FnP Tryz.prog 57 [VInt .i64 k, Sl b] (VEx (fun _ : Oid => True) V) := by
  have hw := wordB_len k
  have hi : (Lib.itoa b.length).length ≤ 21 := Lib.itoa_length_le _ (by omega) (by omega)
  have hc : (canonB k b).length ≤ 1048700 := by unfold canonB; split <;> simp <;> omega
  refine FnP_intro (by kernel_rfl) Tryz.func57 rfl Tryz.ntmps57 rfl (fun e => ?_)
  refine JSR ?_
  refine J_alloc Z37 rfl (fun b4 => ?_)
  refine JNSR ?_
  refine JM rfl rfl ?_
  refine JM rfl rfl ?_
  refine JQ (Q_call (rCanon_c _ _ (by first | omega | simp <;> omega)) ⟨(.tmp rfl), (.tmp rfl), trivial⟩) rfl ?_
  refine JQ (Q_call (rSum_v _ (by first | omega | simp <;> omega)) ⟨(.tmp rfl), trivial⟩) rfl ?_
  refine J_open (t := 8) rfl (fun id _ => ?_)
  refine J_store (.tmp rfl) (.tmp rfl) (by (try dsimp only) <;> rfl) (by repeat first | exact R1 | apply RT) Lens.id T37.size ?_
  refine JN ?_
  refine J_retc ?_
  exact J_ret1 rfl (ResAt.box rfl (by repeat first | exact R0 | apply RT) T37) () trivial Split.nil (fun w T v hv => ⟨_, trivial, hv⟩)
end Go.Sep
namespace Go.Sep
open Go Go.Proofs
open Enc (V)
abbrev RItem := Oid × Int × List UInt8
abbrev RMap := List RItem × Bool
theorem J_genBP {P : Program} {n : Nat} {e : Env P} {G : Ctx} {S S' : List Res} {α : Type} [Enc α] {tb : TypeId} {b : Nat} {z : α} (pr : α → Prop) {K : Act → World → Prop} (hm : Repl S (BoxR tb b z) [] S') (hp : pr z) (h : ∀ z2 : α, pr z2 → J n e G (BoxR tb b z2 :: S') K) : J n e G S K := J_perm hm.perm0 (h z hp)
attribute [local irreducible] Quiet QStep J At FnX Fn FnP Repl Split Has Post Back GoZ
theorem rSet_v {tb p : Nat} (L : List RItem) (c : Bool) (x : RItem) (hL : L.length ≤ 1000000) : Fn Tryz.prog 23 [Ptr p 0, V x] [BoxR tb p ((L, c) : RMap)] (fun q : RMap => q.1.length ≤ L.length + 1) (fun _ => VTup []) (fun q => [BoxR tb p q]) := by
  refine Fn_intro (by kernel_rfl) Tryz.func23 rfl Tryz.ntmps23 rfl (fun e => ?_)
  refine JSR ?_
  refine J_boxI (α := ((Arr 20 UInt8) × Int × (List UInt8))) (.tmp rfl) rfl ?_
  refine JNSR ?_
  refine JQ (Q_assign At.int) rfl ?_
  refine JN ?_
  refine J_seq ?_
  refine J_block ?_
  refine J_loopU (ι := Nat) (fun k => k ≤ L.length) (fun k => [(4, VInt .i64 (k : Nat))]) [(0, _), (3, _)] (fun k => [BoxR tb p ((L, c) : RMap)]) (fun k => L.length - k) (0) (by first | omega | simp <;> omega) ⟨fe rfl (by first | rfl | exact vint_eq (by first | omega | simp <;> omega) | exact vsl_eq (by simp) | exact vstr_eq (by simp)), trivial⟩ ⟨rfl, rfl, trivial⟩ (Has.take (Repl.box (by repeat first | exact R0 | apply RT) (by first | rfl | simp)) Has.nil) (fun k hq => ?_)
  obtain hk := hq
  refine J_seq ?_
  refine J_seq ?_
  refine J_draw mix 20 [7, 8, 9, 10, 11, 12, 13, 14, 15, 16, 17, 18, 19, 20, 21, 22, 23, 24, 25, 26] [_, _, _, _, _, _, _, _, _, _, _, _, _, _, _, _, _, _, _, _] rfl rfl (by kernel_rfl) (by kernel_rfl) (by kernel_rfl) (by kernel_rfl) (by kernel_rfl) ⟨QS (Q_move (.tmp rfl)) rfl, QS (Q_move (.tmp rfl)) rfl, QS (Q_nilChkP (.tmp rfl)) rfl, QS (Q_fieldAddrP F56_0 (by decide) (.tmp rfl)) rfl, QS (Q_loadB (.tmp rfl) (by repeat first | exact R0 | apply RT) (Lens.fst Lens.id) T54 (by (try dsimp only) <;> rfl)) rfl, QS (Q_len Tryz.underlying54 rfl (.tmp rfl)) rfl, QS (Q_lss (.tmp rfl) (.tmp rfl)) rfl, QS (Q_move (.tmp rfl)) rfl, QG rfl rfl rfl rfl rfl opt_bool (fun hg => Q_move (.tmp rfl)), QG rfl rfl rfl rfl rfl opt_bool (fun hg => (by have hg0 := hg; simp only [BS, ne_eq] at hg0; exact Q_nilChkP (At.opt rfl (by first | exact hg | (simp only [BS, ne_eq] at hg ⊢; first | exact hg | simp_all))))), QG rfl rfl rfl rfl rfl opt_bool (fun hg => (by have hg0 := hg; simp only [BS, ne_eq] at hg0; exact Q_fieldAddrP F56_0 (by decide) (At.opt rfl (by first | exact hg | (simp only [BS, ne_eq] at hg ⊢; first | exact hg | simp_all))))), QG rfl rfl rfl rfl rfl opt_bool (fun hg => (by have hg0 := hg; simp only [BS, ne_eq] at hg0; exact Q_loadB (At.opt rfl (by first | exact hg | (simp only [BS, ne_eq] at hg ⊢; first | exact hg | simp_all))) (by repeat first | exact R0 | apply RT) (Lens.fst Lens.id) T54 (by (try dsimp only) <;> rfl))), QG rfl rfl rfl rfl rfl opt_bool (fun hg => Q_move (.tmp rfl)), QG rfl rfl rfl rfl rfl opt_bool (fun hg => (by have hg0 := hg; simp only [BS, ne_eq] at hg0; exact Q_idxAddrZ Tryz.underlying54 T72.size (At.opt rfl (by first | exact hg | (simp only [BS, ne_eq] at hg ⊢; first | exact hg | simp_all))) (At.opt rfl (by first | exact hg | (simp only [BS, ne_eq] at hg ⊢; first | exact hg | simp_all))) (by first | omega | simp <;> omega) (by first | omega | simp <;> omega))), QG rfl rfl rfl rfl rfl opt_bool (fun hg => (by have hg0 := hg; simp only [BS, ne_eq] at hg0; exact Q_fieldAddrI F72_0 (by decide) (Lens.fst Lens.id) (At.opt rfl (by first | exact hg | (simp only [BS, ne_eq] at hg ⊢; first | exact hg | simp_all))))), QG rfl rfl rfl rfl rfl opt_bool (fun hg => (by have hg0 := hg; simp only [BS, ne_eq] at hg0; exact Q_load (At.opt rfl (by first | exact hg | (simp only [BS, ne_eq] at hg ⊢; first | exact hg | simp_all))) T37)), QG rfl rfl rfl rfl rfl opt_bool (fun hg => Q_fieldAddrI F72_0 (by decide) (Lens.fst Lens.id) (.tmp rfl)), QG rfl rfl rfl rfl rfl opt_bool (fun hg => (by have hg0 := hg; simp only [BS, ne_eq] at hg0; exact Q_load (At.opt rfl (by first | exact hg | (simp only [BS, ne_eq] at hg ⊢; first | exact hg | simp_all))) T37)), QG rfl rfl rfl rfl rfl opt_bool (fun hg => (by have hg0 := hg; simp only [BS, ne_eq] at hg0; exact Q_call (rLess_c _ _) ⟨(At.opt rfl (by first | exact hg | (simp only [BS, ne_eq] at hg ⊢; first | exact hg | simp_all))), (At.opt rfl (by first | exact hg | (simp only [BS, ne_eq] at hg ⊢; first | exact hg | simp_all))), trivial⟩)), QS (Q_andB (.tmp rfl) (fun hb => At.opt rfl (by simp only [BS, ne_eq] at hb ⊢; first | exact hb | simp_all))) rfl, trivial⟩ ?_
  refine JN ?_
  refine J_cond (.tmp rfl) (fun h0 => ?_) (fun h0 => ?_)
  · try simp only [BS, ne_eq] at h0
    refine J_skip ?_
    refine J_then_normal ?_
    refine J_block ?_
    refine J_region ?_
    refine JM rfl rfl ?_
    refine JQ (Q_addi (.tmp rfl) At.int (by first | omega | simp <;> omega) (by first | omega | simp <;> omega)) rfl ?_
    refine JA rfl rfl ?_
    refine J_nil ?_
    refine J_blk_normal ?_
    refine J_then_normal ?_
    refine J_back (k + 1) ?_ ?_ ?_ ?_
    · exact ⟨by omega, by omega⟩
    · exact ⟨fe rfl (by first | rfl | exact vint_eq (by first | omega | simp <;> omega) | exact vsl_eq (by simp) | exact vstr_eq (by simp)), trivial⟩
    · exact ⟨rfl, rfl, trivial⟩
    · exact (Has.take (Repl.box (by repeat first | exact R0 | apply RT) (by first | rfl | simp)) Has.nil)
  try simp only [BS, ne_eq] at h0
  refine J_exit ?_
  refine J_then_exit ?_
  refine J_then_exit ?_
  refine J_blk_out ?_
  refine J_then_normal ?_
  refine J_seq ?_
  refine J_seq ?_
  refine J_draw mix 20 [29, 30, 31, 32, 33, 34, 35, 36, 37, 38, 39, 40, 41, 42, 43, 44, 45, 46, 47, 48] [_, _, _, _, _, _, _, _, _, _, _, _, _, _, _, _, _, _, _, _] rfl rfl (by kernel_rfl) (by kernel_rfl) (by kernel_rfl) (by kernel_rfl) (by kernel_rfl) ⟨QS (Q_move (.tmp rfl)) rfl, QS (Q_move (.tmp rfl)) rfl, QS (Q_nilChkP (.tmp rfl)) rfl, QS (Q_fieldAddrP F56_0 (by decide) (.tmp rfl)) rfl, QS (Q_loadB (.tmp rfl) (by repeat first | exact R0 | apply RT) (Lens.fst Lens.id) T54 (by (try dsimp only) <;> rfl)) rfl, QS (Q_len Tryz.underlying54 rfl (.tmp rfl)) rfl, QS (Q_lss (.tmp rfl) (.tmp rfl)) rfl, QS (Q_move (.tmp rfl)) rfl, QG rfl rfl rfl rfl rfl opt_bool (fun hg => Q_move (.tmp rfl)), QG rfl rfl rfl rfl rfl opt_bool (fun hg => (by have hg0 := hg; simp only [BS, ne_eq] at hg0; exact Q_nilChkP (At.opt rfl (by first | exact hg | (simp only [BS, ne_eq] at hg ⊢; first | exact hg | simp_all))))), QG rfl rfl rfl rfl rfl opt_bool (fun hg => (by have hg0 := hg; simp only [BS, ne_eq] at hg0; exact Q_fieldAddrP F56_0 (by decide) (At.opt rfl (by first | exact hg | (simp only [BS, ne_eq] at hg ⊢; first | exact hg | simp_all))))), QG rfl rfl rfl rfl rfl opt_bool (fun hg => (by have hg0 := hg; simp only [BS, ne_eq] at hg0; exact Q_loadB (At.opt rfl (by first | exact hg | (simp only [BS, ne_eq] at hg ⊢; first | exact hg | simp_all))) (by repeat first | exact R0 | apply RT) (Lens.fst Lens.id) T54 (by (try dsimp only) <;> rfl))), QG rfl rfl rfl rfl rfl opt_bool (fun hg => Q_move (.tmp rfl)), QG rfl rfl rfl rfl rfl opt_bool (fun hg => (by have hg0 := hg; simp only [BS, ne_eq] at hg0; exact Q_idxAddrZ Tryz.underlying54 T72.size (At.opt rfl (by first | exact hg | (simp only [BS, ne_eq] at hg ⊢; first | exact hg | simp_all))) (At.opt rfl (by first | exact hg | (simp only [BS, ne_eq] at hg ⊢; first | exact hg | simp_all))) (by first | omega | simp <;> omega) (by first | omega | simp <;> omega))), QG rfl rfl rfl rfl rfl opt_bool (fun hg => (by have hg0 := hg; simp only [BS, ne_eq] at hg0; exact Q_fieldAddrI F72_0 (by decide) (Lens.fst Lens.id) (At.opt rfl (by first | exact hg | (simp only [BS, ne_eq] at hg ⊢; first | exact hg | simp_all))))), QG rfl rfl rfl rfl rfl opt_bool (fun hg => (by have hg0 := hg; simp only [BS, ne_eq] at hg0; exact Q_load (At.opt rfl (by first | exact hg | (simp only [BS, ne_eq] at hg ⊢; first | exact hg | simp_all))) T37)), QG rfl rfl rfl rfl rfl opt_bool (fun hg => Q_fieldAddrI F72_0 (by decide) (Lens.fst Lens.id) (.tmp rfl)), QG rfl rfl rfl rfl rfl opt_bool (fun hg => (by have hg0 := hg; simp only [BS, ne_eq] at hg0; exact Q_load (At.opt rfl (by first | exact hg | (simp only [BS, ne_eq] at hg ⊢; first | exact hg | simp_all))) T37)), QG rfl rfl rfl rfl rfl opt_bool (fun hg => (by have hg0 := hg; simp only [BS, ne_eq] at hg0; exact Q_eqlA Tryz.underlying37 Tryz.underlying5 T5.size (by kernel_rfl) (At.opt rfl (by first | exact hg | (simp only [BS, ne_eq] at hg ⊢; first | exact hg | simp_all))) (At.opt rfl (by first | exact hg | (simp only [BS, ne_eq] at hg ⊢; first | exact hg | simp_all))))), QS (Q_andB (.tmp rfl) (fun hb => At.opt rfl (by simp only [BS, ne_eq] at hb ⊢; first | exact hb | simp_all))) rfl, trivial⟩ ?_
  refine JN ?_
  refine J_cond (.tmp rfl) (fun h1 => ?_) (fun h1 => ?_)
  · try simp only [BS, ne_eq] at h1
    refine J_seq ?_
    refine J_draw mix 35 [49, 50, 51, 52, 53, 54, 55, 56, 57, 58, 59, 60, 61, 62, 63, 64, 65, 66, 67, 68, 69, 70, 71, 72, 73, 74, 75, 76, 77, 78, 79, 80, 81, 82, 83] [_, _, _, _, _, _, _, _, _, _, _, _, _, _, _, _, _, _, _, _, _, _, _, _, _, _, _, _, _, _, _, _, _, _, _] rfl rfl (by kernel_rfl) (by kernel_rfl) (by kernel_rfl) (by kernel_rfl) (by kernel_rfl) ⟨QS (Q_move (.tmp rfl)) rfl, QS (Q_move (.tmp rfl)) rfl, QS (Q_nilChkP (.tmp rfl)) rfl, QS (Q_fieldAddrP F56_1 (by decide) (.tmp rfl)) rfl, QS (Q_loadB (.tmp rfl) (by repeat first | exact R0 | apply RT) (Lens.snd Lens.id (by first | rfl | (simp only [Enc.size, Nat.zero_add, Nat.mul_one, Nat.add_zero]; omega))) T4 (by (try dsimp only) <;> rfl)) rfl, QS (Q_move (.tmp rfl)) rfl, QG rfl rfl rfl rfl rfl opt_bool (fun hg => Q_move (.tmp rfl)), QG rfl rfl rfl rfl rfl opt_bool (fun hg => (by have hg0 := hg; simp only [BS, ne_eq] at hg0; exact Q_nilChkP (At.opt rfl (by first | exact hg | (simp only [BS, ne_eq] at hg ⊢; first | exact hg | simp_all))))), QG rfl rfl rfl rfl rfl opt_bool (fun hg => (by have hg0 := hg; simp only [BS, ne_eq] at hg0; exact Q_fieldAddrP F56_0 (by decide) (At.opt rfl (by first | exact hg | (simp only [BS, ne_eq] at hg ⊢; first | exact hg | simp_all))))), QG rfl rfl rfl rfl rfl opt_bool (fun hg => (by have hg0 := hg; simp only [BS, ne_eq] at hg0; exact Q_loadB (At.opt rfl (by first | exact hg | (simp only [BS, ne_eq] at hg ⊢; first | exact hg | simp_all))) (by repeat first | exact R0 | apply RT) (Lens.fst Lens.id) T54 (by (try dsimp only) <;> rfl))), QG rfl rfl rfl rfl rfl opt_bool (fun hg => Q_move (.tmp rfl)), QG rfl rfl rfl rfl rfl opt_bool (fun hg => (by have hg0 := hg; simp only [BS, ne_eq] at hg0; exact Q_idxAddrZ Tryz.underlying54 T72.size (At.opt rfl (by first | exact hg | (simp only [BS, ne_eq] at hg ⊢; first | exact hg | simp_all))) (At.opt rfl (by first | exact hg | (simp only [BS, ne_eq] at hg ⊢; first | exact hg | simp_all))) (by first | omega | simp <;> omega) (by first | omega | simp <;> omega))), QG rfl rfl rfl rfl rfl opt_bool (fun hg => (by have hg0 := hg; simp only [BS, ne_eq] at hg0; exact Q_fieldAddrI F72_1 (by decide) (Lens.snd (Lens.fst Lens.id) (by first | rfl | (simp only [Enc.size, Nat.zero_add, Nat.mul_one, Nat.add_zero]; omega))) (At.opt rfl (by first | exact hg | (simp only [BS, ne_eq] at hg ⊢; first | exact hg | simp_all))))), QG rfl rfl rfl rfl rfl opt_bool (fun hg => (by have hg0 := hg; simp only [BS, ne_eq] at hg0; exact Q_load (At.opt rfl (by first | exact hg | (simp only [BS, ne_eq] at hg ⊢; first | exact hg | simp_all))) T3)), QG rfl rfl rfl rfl rfl opt_bool (fun hg => (by have hg0 := hg; simp only [BS, ne_eq] at hg0; exact Q_fieldAddrI F72_1 (by decide) (Lens.snd (Lens.fst Lens.id) (by first | rfl | (simp only [Enc.size, Nat.zero_add, Nat.mul_one, Nat.add_zero]; omega))) (.tmp rfl))), QG rfl rfl rfl rfl rfl opt_bool (fun hg => (by have hg0 := hg; simp only [BS, ne_eq] at hg0; exact Q_load (At.opt rfl (by first | exact hg | (simp only [BS, ne_eq] at hg ⊢; first | exact hg | simp_all))) T3)), QG rfl rfl rfl rfl rfl opt_bool (fun hg => (by have hg0 := hg; simp only [BS, ne_eq] at hg0; exact Q_neq (At.opt rfl (by first | exact hg | (simp only [BS, ne_eq] at hg ⊢; first | exact hg | simp_all))) (At.opt rfl (by first | exact hg | (simp only [BS, ne_eq] at hg ⊢; first | exact hg | simp_all))))), QS (Q_orB (.tmp rfl) (fun hb => At.opt rfl (by simp only [BS, ne_eq] at hb ⊢; first | exact hb | simp_all))) rfl, QS (Q_move (.tmp rfl)) rfl, QG rfl rfl rfl rfl rfl opt_bool (fun hg => Q_move (.tmp rfl)), QG rfl rfl rfl rfl rfl opt_bool (fun hg => (by have hg0 := hg; simp only [BS, ne_eq] at hg0; exact Q_nilChkP (At.opt rfl (by first | exact hg | (simp only [BS, ne_eq] at hg ⊢; first | exact hg | simp_all))))), QG rfl rfl rfl rfl rfl opt_bool (fun hg => (by have hg0 := hg; simp only [BS, ne_eq] at hg0; exact Q_fieldAddrP F56_0 (by decide) (At.opt rfl (by first | exact hg | (simp only [BS, ne_eq] at hg ⊢; first | exact hg | simp_all))))), QG rfl rfl rfl rfl rfl opt_bool (fun hg => (by have hg0 := hg; simp only [BS, ne_eq] at hg0; exact Q_loadB (At.opt rfl (by first | exact hg | (simp only [BS, ne_eq] at hg ⊢; first | exact hg | simp_all))) (by repeat first | exact R0 | apply RT) (Lens.fst Lens.id) T54 (by (try dsimp only) <;> rfl))), QG rfl rfl rfl rfl rfl opt_bool (fun hg => Q_move (.tmp rfl)), QG rfl rfl rfl rfl rfl opt_bool (fun hg => (by have hg0 := hg; simp only [BS, ne_eq] at hg0; exact Q_idxAddrZ Tryz.underlying54 T72.size (At.opt rfl (by first | exact hg | (simp only [BS, ne_eq] at hg ⊢; first | exact hg | simp_all))) (At.opt rfl (by first | exact hg | (simp only [BS, ne_eq] at hg ⊢; first | exact hg | simp_all))) (by first | omega | simp <;> omega) (by first | omega | simp <;> omega))), QG rfl rfl rfl rfl rfl opt_bool (fun hg => (by have hg0 := hg; simp only [BS, ne_eq] at hg0; exact Q_fieldAddrI F72_2 (by decide) (Lens.snd (Lens.snd Lens.id (by first | rfl | (simp only [Enc.size, Nat.zero_add, Nat.mul_one, Nat.add_zero]; omega))) (by first | rfl | (simp only [Enc.size, Nat.zero_add, Nat.mul_one, Nat.add_zero]; omega))) (At.opt rfl (by first | exact hg | (simp only [BS, ne_eq] at hg ⊢; first | exact hg | simp_all))))), QG rfl rfl rfl rfl rfl opt_bool (fun hg => (by have hg0 := hg; simp only [BS, ne_eq] at hg0; exact Q_load (At.opt rfl (by first | exact hg | (simp only [BS, ne_eq] at hg ⊢; first | exact hg | simp_all))) T23)), QG rfl rfl rfl rfl rfl opt_bool (fun hg => (by have hg0 := hg; simp only [BS, ne_eq] at hg0; exact Q_toStr Tryz.underlying23 Tryz.underlying5 Tryz.underlying9 (At.opt rfl (by first | exact hg | (simp only [BS, ne_eq] at hg ⊢; first | exact hg | simp_all))))), QG rfl rfl rfl rfl rfl opt_bool (fun hg => (by have hg0 := hg; simp only [BS, ne_eq] at hg0; exact Q_fieldAddrI F72_2 (by decide) (Lens.snd (Lens.snd Lens.id (by first | rfl | (simp only [Enc.size, Nat.zero_add, Nat.mul_one, Nat.add_zero]; omega))) (by first | rfl | (simp only [Enc.size, Nat.zero_add, Nat.mul_one, Nat.add_zero]; omega))) (.tmp rfl))), QG rfl rfl rfl rfl rfl opt_bool (fun hg => (by have hg0 := hg; simp only [BS, ne_eq] at hg0; exact Q_load (At.opt rfl (by first | exact hg | (simp only [BS, ne_eq] at hg ⊢; first | exact hg | simp_all))) T23)), QG rfl rfl rfl rfl rfl opt_bool (fun hg => (by have hg0 := hg; simp only [BS, ne_eq] at hg0; exact Q_toStr Tryz.underlying23 Tryz.underlying5 Tryz.underlying9 (At.opt rfl (by first | exact hg | (simp only [BS, ne_eq] at hg ⊢; first | exact hg | simp_all))))), QG rfl rfl rfl rfl rfl opt_bool (fun hg => (by have hg0 := hg; simp only [BS, ne_eq] at hg0; exact Q_neqs (At.opt rfl (by first | exact hg | (simp only [BS, ne_eq] at hg ⊢; first | exact hg | simp_all))) (At.opt rfl (by first | exact hg | (simp only [BS, ne_eq] at hg ⊢; first | exact hg | simp_all))))), QS (Q_orB (.tmp rfl) (fun hb => At.opt rfl (by simp only [BS, ne_eq] at hb ⊢; first | exact hb | simp_all))) rfl, QS (Q_nilChkP (.tmp rfl)) rfl, QS (Q_fieldAddrP F56_1 (by decide) (.tmp rfl)) rfl, trivial⟩ ?_
    refine J_store (.tmp rfl) (.tmp rfl) (by (try dsimp only) <;> rfl) (by repeat first | exact R1 | apply RT) (Lens.snd Lens.id (by first | rfl | (simp only [Enc.size, Nat.zero_add, Nat.mul_one, Nat.add_zero]; omega))) T4.size ?_
    refine JNSR ?_
    refine J_buildRow (α := ((Arr 20 UInt8) × Int × (List UInt8))) E72 Tryz.underlying54 [] [] rfl rfl trivial (Nat.le_of_ble_eq_true rfl) rfl (fun v84 => ?_)
    refine JM rfl rfl ?_
    refine JQ (Q_nilChkP (.tmp rfl)) rfl ?_
    refine JQ (Q_fieldAddrP F56_0 (by decide) (.tmp rfl)) rfl ?_
    refine JQ (Q_loadB (.tmp rfl) (by repeat first | exact R0 | apply RT) (Lens.fst Lens.id) T54 (by (try dsimp only) <;> rfl)) rfl ?_
    refine J_append (α := ((Arr 20 UInt8) × Int × (List UInt8))) E72 Tryz.underlying54 (.tmp rfl) (.tmp rfl) (by repeat first | exact R0 | apply RT) (by first | omega | (simp; omega)) (by first | (simp only [maxLen]; omega) | (simp [maxLen]; omega)) rfl (fun v89 => ?_)
    refine JA rfl rfl ?_
    refine JNSR ?_
    refine JM rfl rfl ?_
    refine JM rfl rfl ?_
    refine JQ (Q_load (.tmp rfl) T72) rfl ?_
    refine JQ (Q_idxAddrR (α := ((Arr 20 UInt8) × Int × (List UInt8))) Tryz.underlying54 T72.size (.tmp rfl) (by repeat first | exact R0 | apply RT) (.tmp rfl) (by first | omega | simp <;> omega) (by first | omega | simp <;> omega)) rfl ?_
    refine J_storeA (α := ((Arr 20 UInt8) × Int × (List UInt8))) (.tmp rfl) (.tmp rfl) rfl (by repeat first | exact R1 | apply RT) (by first | omega | simp <;> omega) T72.size ?_
    refine JNSR ?_
    refine J_freezeR (sl := 5) (by repeat first | exact R0 | apply RT) rfl ?_
    refine JM rfl rfl ?_
    refine JM rfl rfl ?_
    refine JQ (Q_nilChkP (.tmp rfl)) rfl ?_
    refine JQ (Q_fieldAddrP F56_0 (by decide) (.tmp rfl)) rfl ?_
    refine J_store (.tmp rfl) (.tmp rfl) (by (try dsimp only) <;> rfl) (by repeat first | exact R1 | apply RT) (Lens.fst Lens.id) T54.size ?_
    refine JN ?_
    refine J_retc ?_
    refine J_then_ret ?_
    refine J_genBP (tb := tb) (b := p) (fun q : RMap => q.1.length ≤ L.length + 1) (by repeat first | exact R0 | apply RT) (by simp) (fun q hq => ?_)
    exact J_ret0 rfl q hq Split.self (fun _ _ => vtup0 _ _)
  try simp only [BS, ne_eq] at h1
  refine J_skip ?_
  refine J_then_normal ?_
  refine J_seq ?_
  refine J_drawG (ι₁ := Value) (ι₂ := Unit) (fun o1 _ => (match o1 with | none => [] | some v => [RowE 72 v (L.take k)]) ++ [BoxR tb p ((L, c) : RMap)]) (fun _ => True) (fun _ => True) (Is) (fun _ => Any) rfl mix 10 7 12 [98, 99, 100, 101, 102, 103, 104, 105, 106, 107] [_, _, _, _, _, _, _, Any, _, _] rfl rfl (by kernel_rfl) (by kernel_rfl) (by kernel_rfl) (by kernel_rfl) (by kernel_rfl) (by kernel_rfl) (by intro o ho; obtain rfl := Option.some.inj ho; rfl) (by intro o ho; cases ho) (fun _ => rfl) (fun h => absurd h (by decide)) [false, false, false, false, false, false, false, true, false, false] (by kernel_rfl) (fun o1 o2 => by rcases o1 with _ | o1 <;> rcases o2 with _ | o2 <;> exact ⟨QS (Q_buildEmp (α := ((Arr 20 UInt8) × Int × (List UInt8))) E72 Tryz.underlying54) rfl, QS (Q_move (.tmp rfl)) rfl, QS (Q_nilChkP (.tmp rfl)) rfl, QS (Q_fieldAddrP F56_0 (by decide) (.tmp rfl)) rfl, QS (Q_loadB (.tmp rfl) (by repeat first | exact R0 | apply RT) (Lens.fst Lens.id) T54 (by (try dsimp only) <;> rfl)) rfl, QS (Q_move (.tmp rfl)) rfl, QS (Q_slice Tryz.underlying54 T72.size (.tmp rfl) rfl ⟨_, (.tmp rfl)⟩ (by first | omega | simp <;> omega) (by first | omega | simp <;> omega) (by first | omega | simp <;> omega)) rfl, QS (Q_load (.tmp rfl) T72) rfl, QS (Q_buildSlice (α := ((Arr 20 UInt8) × Int × (List UInt8))) E72 Tryz.underlying54 [.tmp 106] [_] rfl rfl ⟨(.tmp rfl), trivial⟩ (Nat.le_of_ble_eq_true rfl)) rfl, trivial⟩) (fun o2 o ho => ?_) (by intro o1 o ho; cases ho) (fun o1 o2 ho1 ho2 hc1 hc2 => ?_)
  · obtain rfl := Option.some.inj ho
    rcases o2 with _ | o2 <;> exact E_appendEmp (α := RItem) E72 Tryz.underlying54 (.tmp rfl) (At.eq (.tmp rfl) (vsl_eq (by simp))) (by simp; omega) (by simp [maxLen]; omega) (fun _ => List.Perm.refl _)
  obtain ⟨v105, rfl⟩ : ∃ i, o1 = some i := Option.isSome_iff_exists.1 (ho1.2 (by decide))
  have hv105 := hc1 _ rfl
  obtain rfl : o2 = none := by cases o2 with | none => rfl | some _ => exact absurd (ho2.1 rfl) (by decide)
  clear ho1 ho2 hc1 hc2
  refine J_appendE (α := RItem) E72 Tryz.underlying54 (.tmp rfl) (.tmp rfl) (by repeat first | exact R0 | apply RT) (by simp) (by simp; omega) (by simp [maxLen]; omega) rfl (fun v108 => ?_)
  refine JA rfl rfl ?_
  refine JNR ?_
  refine JM rfl rfl ?_
  refine JM rfl rfl ?_
  refine JM rfl rfl ?_
  refine JQ (Q_nilChkP (.tmp rfl)) rfl ?_
  refine JQ (Q_fieldAddrP F56_0 (by decide) (.tmp rfl)) rfl ?_
  refine JQ (Q_loadB (.tmp rfl) (by repeat first | exact R0 | apply RT) (Lens.fst Lens.id) T54 (by (try dsimp only) <;> rfl)) rfl ?_
  refine JM rfl rfl ?_
  refine JQ (Q_slice Tryz.underlying54 T72.size (.tmp rfl) ⟨_, (.tmp rfl)⟩ rfl (by first | omega | simp <;> omega) (by first | omega | simp <;> omega) (by first | omega | simp <;> omega)) rfl ?_
  refine J_append (α := ((Arr 20 UInt8) × Int × (List UInt8))) E72 Tryz.underlying54 (.tmp rfl) (.tmp rfl) (by repeat first | exact R0 | apply RT) (by first | omega | (simp; omega)) (by first | (simp only [maxLen]; omega) | (simp [maxLen]; omega)) rfl (fun v117 => ?_)
  refine J_freezeR (sl := 117) (by repeat first | exact R0 | apply RT) rfl ?_
  refine JQ (Q_nilChkP (.tmp rfl)) rfl ?_
  refine JQ (Q_fieldAddrP F56_0 (by decide) (.tmp rfl)) rfl ?_
  refine J_store (.tmp rfl) (.tmp rfl) (by (try dsimp only) <;> rfl) (by repeat first | exact R1 | apply RT) (Lens.fst Lens.id) T54.size ?_
  refine J_nil ?_
  refine J_genBP (tb := tb) (b := p) (fun q : RMap => q.1.length ≤ L.length + 1) (by repeat first | exact R0 | apply RT) (by simp; omega) (fun q hq => ?_)
  exact J_end0 rfl q hq Split.self (fun _ _ => vtup0 _ _)
end Go.Sep
namespace Go.Sep
open Go Go.Proofs
open Enc (V)
theorem shr8_lt (x : UInt8) : (shr8 x 4).toNat < 16 := by
  have := x.toNat_lt
  rw [shr8_toNat]
  omega
theorem and15_lt (x : UInt8) : (x &&& UInt8.ofNat 15).toNat < 16 := by
  rw [UInt8.toNat_and]
  have := @Nat.and_le_right x.toNat (UInt8.ofNat 15).toNat
  have h2 : (UInt8.ofNat 15).toNat = 15 := rfl
  omega
def hexN (id : Oid) : Nat → Bs
  | 0 => []
  | k + 1 => hexN id k ++ [hexDigits.getD (shr8 (id.l.getD k 0) 4).toNat 0, hexDigits.getD (id.l.getD k 0 &&& UInt8.ofNat 15).toNat 0]
def hexR (id : Oid) : Bs := hexN id 20
theorem hexN_len (id : Oid) : ∀ k, (hexN id k).length = 2 * k
  | 0 => rfl
  | k + 1 => by rw [hexN, List.length_append, hexN_len id k]; simp; omega
theorem digit_all : ∀ n, n < 256 → ((digitR (UInt8.ofNat n) < 0 ↔ UInt8.ofNat n ∉ hexDigits) ∧ (¬ digitR (UInt8.ofNat n) < 0 → toU8 (digitR (UInt8.ofNat n)) = toU8 (Lib.indexByte hexDigits (UInt8.ofNat n)))) := by decide +kernel
theorem digit_hex (c : UInt8) : (digitR c < 0 ↔ c ∉ hexDigits) ∧ (¬ digitR c < 0 → toU8 (digitR c) = toU8 (Lib.indexByte hexDigits c)) := by
  have := digit_all c.toNat c.toNat_lt
  rwa [UInt8.ofNat_toNat] at this
def eolB (b : Bs) (at_ : Nat) : Nat := at_ + ((b.drop at_).takeWhile (fun c => c != 10)).length
theorem eolB_go {b : Bs} {i : Nat} (h : i < b.length) (h2 : b[i] ≠ 10) : eolB b (i + 1) = eolB b i := by
  unfold eolB
  rw [List.drop_eq_getElem_cons h, List.takeWhile_cons_of_pos (by simpa using h2), List.length_cons]
  omega
theorem eolB_stop {b : Bs} {i : Nat} (h : ∀ h : i < b.length, b[i] = 10) : eolB b i = i := by
  unfold eolB
  by_cases hi : i < b.length
  · rw [List.drop_eq_getElem_cons hi, List.takeWhile_cons_of_neg (by simpa using h hi)]; rfl
  · rw [List.drop_eq_nil_of_le (by omega)]; rfl
theorem eolB_le {b : Bs} {i : Nat} (h : i ≤ b.length) : i ≤ eolB b i ∧ eolB b i ≤ b.length := by
  unfold eolB
  have := (List.takeWhile_sublist (fun c : UInt8 => c != 10) (l := b.drop i)).length_le
  rw [List.length_drop] at this
  omega
def lineB (b : Bs) (at_ : Nat) (w : Bs) : Bs × Nat × Bool :=
  if eolB b at_ = b.length ∨ eolB b at_ - at_ < w.length + 1 ∨ (b.take (at_ + w.length + 1)).drop at_ ≠ w ++ [32] then ([], at_, false)
  else ((b.take (eolB b at_)).drop (at_ + w.length + 1), eolB b at_ + 1, true)
theorem lineB_le {b : Bs} {a : Nat} {w : Bs} (h : a ≤ b.length) : (lineB b a w).2.1 ≤ b.length ∧ (lineB b a w).1.length ≤ b.length ∧ a ≤ (lineB b a w).2.1 ∧ ((lineB b a w).2.2 = true → a < (lineB b a w).2.1) := by
  have := eolB_le h
  unfold lineB
  split
  · simp; omega
  · rename_i hc
    have h1 : ¬ eolB b a = b.length := fun e => hc (.inl e)
    simp
    omega
attribute [local irreducible] Quiet QStep J At FnX Fn FnP Repl Split Has Post Back GoZ
theorem rHex_c (id : Oid) : FnP Tryz.prog 95 [V id] (VStr (hexR id)) := by
  have hid := id.h
  refine FnP_intro (by kernel_rfl) Tryz.func95 rfl Tryz.ntmps95 rfl (fun e => ?_)
  refine JSR ?_
  refine J_boxI (α := (Arr 20 UInt8)) (.tmp rfl) rfl ?_
  refine JQ (Q_assign At.str) rfl ?_
  refine JNSR ?_
  refine JQ (Q_assign At.str) rfl ?_
  refine JNSR ?_
  refine JQ (Q_assign At.const) rfl ?_
  refine JNSSR ?_
  refine JQ (Q_assign At.int) rfl ?_
  refine JN ?_
  refine J_block ?_
  refine J_rowNil (el := 5) UInt8 ?_
  refine J_loopU (ι := Nat × Value) (fun q => match q with | (k, u) => k ≤ 20) (fun q => match q with | (k, u) => [(5, VInt .i64 (k : Nat)), (4, Is u)]) [(1, _), (2, _), (3, _)] (fun q => match q with | (k, u) => [RowR 5 u (hexN id k)]) (fun q => match q with | (k, u) => 20 - k) ((0, .slice none 0 0)) (by first | omega | simp <;> omega) ⟨fe rfl (by first | rfl | exact vint_eq (by first | omega | simp <;> omega) | exact vsl_eq (by simp) | exact vstr_eq (by simp)), fe rfl (by first | rfl | exact vint_eq (by first | omega | simp <;> omega) | exact vsl_eq (by simp) | exact vstr_eq (by simp)), trivial⟩ ⟨rfl, rfl, rfl, trivial⟩ (Has.take (Repl.row (by repeat first | exact R0 | apply RT) (by first | rfl | simp)) Has.nil) (fun q hk => ?_)
  obtain ⟨k, u⟩ := q
  try dsimp only at hk
  skip
  have hkl := hexN_len id k
  refine J_seq ?_
  refine JSR ?_
  refine JM rfl rfl ?_
  refine JQ (Q_lss (.tmp rfl) At.int) rfl ?_
  refine JN ?_
  refine J_cond (.tmp rfl) (fun h0 => ?_) (fun h0 => ?_)
  · try simp only [BS, ne_eq] at h0
    refine J_skip ?_
    refine J_then_normal ?_
    refine J_seq ?_
    refine J_block ?_
    refine J_draw mix 14 [10, 11, 12, 13, 14, 15, 16, 17, 18, 19, 20, 21, 22, 23] [_, _, _, _, _, _, _, _, _, _, _, _, _, _] rfl rfl (by kernel_rfl) (by kernel_rfl) (by kernel_rfl) (by kernel_rfl) (by kernel_rfl) ⟨QS (Q_move (.tmp rfl)) rfl, QS (Q_move (.tmp rfl)) rfl, QS (Q_move (.tmp rfl)) rfl, QS (Q_idxAddrAI Tryz.underlying37 T5.size (.tmp rfl) (.tmp rfl) (by first | omega | simp <;> omega) (by first | omega | simp <;> omega)) rfl, QS (Q_load (.tmp rfl) T5) rfl, QS (Q_shr8 (c := 4) (.tmp rfl) At.int (by first | omega | simp <;> omega)) rfl, QS (Q_idxs Tryz.underlying9 (.tmp rfl) (.tmp rfl) (by first | omega | simp <;> omega) (Int.ofNat_lt.2 (shr8_lt _))) rfl, QS (Q_move (.tmp rfl)) rfl, QS (Q_move (.tmp rfl)) rfl, QS (Q_idxAddrAI Tryz.underlying37 T5.size (.tmp rfl) (.tmp rfl) (by first | omega | simp <;> omega) (by first | omega | simp <;> omega)) rfl, QS (Q_load (.tmp rfl) T5) rfl, QS (Q_and8 (.tmp rfl) (At.k8 (z := 15) (by decide))) rfl, QS (Q_idxs Tryz.underlying9 (.tmp rfl) (.tmp rfl) (by first | omega | simp <;> omega) (Int.ofNat_lt.2 (and15_lt _))) rfl, QS (Q_buildSlice (α := UInt8) E5 Tryz.underlying23 [.tmp 16, .tmp 22] [_, _] rfl rfl ⟨(.tmp rfl), (.tmp rfl), trivial⟩ (Nat.le_of_ble_eq_true rfl)) rfl, trivial⟩ ?_
    refine J_append (α := UInt8) E5 Tryz.underlying23 (.tmp rfl) (.tmp rfl) (by repeat first | exact R0 | apply RT) (by first | omega | (simp; omega)) (by first | (simp only [maxLen]; omega) | (simp [maxLen]; omega)) rfl (fun v24 => ?_)
    refine JA rfl rfl ?_
    refine J_nil ?_
    refine J_blk_normal ?_
    refine J_then_normal ?_
    refine J_region ?_
    refine JM rfl rfl ?_
    refine JQ (Q_addi (.tmp rfl) At.int (by first | omega | simp <;> omega) (by first | omega | simp <;> omega)) rfl ?_
    refine JA rfl rfl ?_
    refine JN ?_
    refine J_back ((k + 1, v24)) ?_ ?_ ?_ ?_
    · exact ⟨by omega, by simp only; omega⟩
    · exact ⟨fe rfl (by first | rfl | exact vint_eq (by first | omega | simp <;> omega) | exact vsl_eq (by simp) | exact vstr_eq (by simp)), fe rfl (by first | rfl | exact vint_eq (by first | omega | simp <;> omega) | exact vsl_eq (by simp) | exact vstr_eq (by simp)), trivial⟩
    · exact ⟨rfl, rfl, rfl, trivial⟩
    · exact (Has.take (Repl.row (by repeat first | exact R0 | apply RT) (by rw [hexN]; simp [Arr.get, hexDigits, hid, show k < 20 by omega])) Has.nil)
  try simp only [BS, ne_eq] at h0
  refine J_exit ?_
  refine J_then_exit ?_
  refine J_then_exit ?_
  refine J_blk_out ?_
  refine J_then_normal ?_
  refine JSR ?_
  refine J_freezeR (sl := 4) (by repeat first | exact R0 | apply RT) rfl ?_
  obtain rfl : k = 20 := (by first | omega | simp <;> omega)
  refine JM rfl rfl ?_
  refine JQ (Q_toStr Tryz.underlying23 Tryz.underlying5 Tryz.underlying9 (.tmp rfl)) rfl ?_
  refine JA rfl rfl ?_
  refine JN ?_
  refine J_retc ?_
  exact J_ret1 rfl (ResAt.tmp rfl) () trivial Split.nil imp_refl
theorem rParse_c (s : Bytes) (hs : s.length ≤ 4611686018427387904) : FnP Tryz.prog 71 [VStr s] (VTup [V (parseB s).1, VInt .i64 (parseB s).2]) := by
  refine FnP_intro (by kernel_rfl) Tryz.func71 rfl Tryz.ntmps71 rfl (fun e => ?_)
  refine JSR ?_
  refine J_alloc Z37 rfl (fun b2 => ?_)
  refine JQ (Q_assign At.int) rfl ?_
  refine JNSR ?_
  refine J_alloc Z37 rfl (fun b4 => ?_)
  refine JNSSR ?_
  refine JM rfl rfl ?_
  refine JQ (Q_lens Tryz.underlying9 rfl (.tmp rfl)) rfl ?_
  refine JQ (Q_neq (.tmp rfl) At.int) rfl ?_
  refine JN ?_
  refine J_cond (.tmp rfl) (fun h0 => ?_) (fun h0 => ?_)
  · try simp only [BS, ne_eq] at h0
    refine JSR ?_
    refine JQ (Q_loadB (.tmp rfl) (by repeat first | exact R0 | apply RT) Lens.id T37 (by (try dsimp only) <;> rfl)) rfl ?_
    refine J_store (.tmp rfl) (.tmp rfl) (by (try dsimp only) <;> rfl) (by repeat first | exact R1 | apply RT) Lens.id T37.size ?_
    refine JQ (Q_assign At.int) rfl ?_
    refine JN ?_
    refine J_retc ?_
    refine J_then_ret ?_
    exact J_ret2 rfl (ResAt.box rfl (by repeat first | exact R0 | apply RT) T37) (ResAt.tmp rfl) () trivial Split.nil (imp_eq (by unfold parseB; rw [if_neg (by intro h; exact h0 (by first | omega | simp <;> omega))]))
  try simp only [BS, ne_eq] at h0
  refine J_skip ?_
  refine J_then_normal ?_
  refine J_seq ?_
  refine JSR ?_
  refine JQ (Q_assign At.int) rfl ?_
  refine JN ?_
  refine J_block ?_
  refine J_loopU (ι := Nat) (fun k => k ≤ 40 ∧ ∀ c ∈ s.take k, c ∈ hexDigits) (fun k => [(5, VInt .i64 (k : Nat))]) [(0, _), (2, _), (4, _)] (fun k => [BoxR 37 b4 (parseN s k), BoxR 37 b2 (GoZero.z : Oid)]) (fun k => 40 - k) (0) ⟨by omega, by simp⟩ ⟨fe rfl (by first | rfl | exact vint_eq (by first | omega | simp <;> omega) | exact vsl_eq (by simp) | exact vstr_eq (by simp)), trivial⟩ ⟨rfl, rfl, rfl, trivial⟩ (Has.take (Repl.box (by repeat first | exact R0 | apply RT) (by first | rfl | simp)) (Has.take (Repl.box (by repeat first | exact R0 | apply RT) (by first | rfl | simp)) Has.nil)) (fun k hq => ?_)
  obtain ⟨hk, hx⟩ := hq
  refine J_seq ?_
  refine JSR ?_
  refine JM rfl rfl ?_
  refine JQ (Q_lss (.tmp rfl) At.int) rfl ?_
  refine JN ?_
  refine J_cond (.tmp rfl) (fun h1 => ?_) (fun h1 => ?_)
  · try simp only [BS, ne_eq] at h1
    refine J_skip ?_
    refine J_then_normal ?_
    refine J_seq ?_
    refine J_block ?_
    refine J_seq ?_
    refine JSR ?_
    refine JM rfl rfl ?_
    refine JM rfl rfl ?_
    refine JQ (by first | exact Q_idxsN Tryz.underlying9 (.tmp rfl) (.tmp rfl) (by first | omega | simp <;> omega) | exact Q_idxs Tryz.underlying9 (.tmp rfl) (.tmp rfl) (by first | omega | simp <;> omega) (by first | omega | simp <;> omega)) rfl ?_
    refine JQ (Q_call (rDigit_c _) ⟨(.tmp rfl), trivial⟩) rfl ?_
    refine JQ (Q_lss (.tmp rfl) At.int) rfl ?_
    refine JN ?_
    refine J_cond (.tmp rfl) (fun h2 => ?_) (fun h2 => ?_)
    · try simp only [BS, ne_eq] at h2
      refine JSR ?_
      refine JQ (Q_build Z37 T37.agg (by kernel_rfl) BP.nil) rfl ?_
      refine J_store (.tmp rfl) (.tmp rfl) (by (try dsimp only) <;> rfl) (by repeat first | exact R1 | apply RT) Lens.id T37.size ?_
      refine JQ (Q_assign At.int) rfl ?_
      refine JN ?_
      refine J_retc ?_
      refine J_then_ret ?_
      refine J_blk_ret ?_
      refine J_then_ret ?_
      refine J_then_ret ?_
      refine J_blk_ret ?_
      refine J_then_ret ?_
      exact J_ret2 rfl (ResAt.box rfl (by repeat first | exact R0 | apply RT) T37) (ResAt.tmp rfl) () trivial Split.nil (imp_eq (by unfold parseB; rw [if_neg]; rintro ⟨_, h⟩; unfold isHexB at h; rw [List.all_eq_true] at h; have := h s[k] (List.getElem_mem _); exact (digit_hex _).1.1 h2 (by simpa using this)))
    try simp only [BS, ne_eq] at h2
    refine J_skip ?_
    refine J_then_normal ?_
    refine J_draw mix 14 [20, 21, 22, 23, 24, 25, 26, 27, 28, 29, 30, 31, 32, 33] [_, _, _, _, _, _, _, _, _, _, _, _, _, _] rfl rfl (by kernel_rfl) (by kernel_rfl) (by kernel_rfl) (by kernel_rfl) (by kernel_rfl) ⟨QS (Q_move (.tmp rfl)) rfl, QS (Q_quoi (.tmp rfl) At.int (by first | omega | simp <;> omega) (by first | omega | simp <;> omega) (by first | omega | simp <;> omega)) rfl, QS (Q_move (.tmp rfl)) rfl, QS (Q_quoi (.tmp rfl) At.int (by first | omega | simp <;> omega) (by first | omega | simp <;> omega) (by first | omega | simp <;> omega)) rfl, QS (Q_idxAddrP Tryz.underlying37 T5.size (.tmp rfl) (.tmp rfl) (by first | omega | simp <;> omega) (by first | omega | simp <;> omega)) rfl, QS (Q_loadB (.tmp rfl) (by repeat first | exact R0 | apply RT) (Lens.idxO (_) (by first | (simp only [Nat.zero_add]; rfl) | rfl) (by first | omega | simp <;> omega)) T5 (by (try dsimp only) <;> rfl)) rfl, QS (Q_shl8 (c := 4) (.tmp rfl) At.int (by first | omega | simp <;> omega)) rfl, QS (Q_move (.tmp rfl)) rfl, QS (Q_move (.tmp rfl)) rfl, QS ((by first | exact Q_idxsN Tryz.underlying9 (.tmp rfl) (.tmp rfl) (by first | omega | simp <;> omega) | exact Q_idxs Tryz.underlying9 (.tmp rfl) (.tmp rfl) (by first | omega | simp <;> omega) (by first | omega | simp <;> omega))) rfl, QS (Q_call (rDigit_c _) ⟨(.tmp rfl), trivial⟩) rfl, QS (Q_to8 (.tmp rfl) (by kernel_rfl) Tryz.underlying5) rfl, QS (Q_or8 (.tmp rfl) (.tmp rfl)) rfl, QS (Q_idxAddrP Tryz.underlying37 T5.size (.tmp rfl) (.tmp rfl) (by first | omega | simp <;> omega) (by first | omega | simp <;> omega)) rfl, trivial⟩ ?_
    refine J_store (.tmp rfl) (.tmp rfl) (by (try dsimp only) <;> rfl) (by repeat first | exact R1 | apply RT) (Lens.idxO (_) (by first | (simp only [Nat.zero_add]; rfl) | rfl) (by first | omega | simp <;> omega)) T5.size ?_
    refine J_nil ?_
    refine J_blk_normal ?_
    refine J_then_normal ?_
    refine J_region ?_
    refine JM rfl rfl ?_
    refine JQ (Q_addi (.tmp rfl) At.int (by first | omega | simp <;> omega) (by first | omega | simp <;> omega)) rfl ?_
    refine JA rfl rfl ?_
    refine JN ?_
    have hdg := (digit_hex s[k]).2 h2
    refine J_back (k + 1) ?_ ?_ ?_ ?_
    · exact ⟨⟨by omega, fun c hc => by rw [List.take_succ_eq_append_getElem (by first | omega | simp <;> omega), List.mem_append, List.mem_singleton] at hc; rcases hc with hc | rfl; (exact hx c hc); (exact Classical.byContradiction fun hn => h2 ((digit_hex _).1.2 hn))⟩, by omega⟩
    · exact ⟨fe rfl (by first | rfl | exact vint_eq (by first | omega | simp <;> omega) | exact vsl_eq (by simp) | exact vstr_eq (by simp)), trivial⟩
    · exact ⟨rfl, rfl, rfl, trivial⟩
    · exact (Has.take (Repl.box (by repeat first | exact R0 | apply RT) (by (have e2 : ((k : Int) / 2).toNat = k / 2 := (by first | omega | simp <;> omega)); have e3 : k / 2 < (parseN s k).l.length := (by rw [(parseN s k).h]; omega); have e4 : k < s.length := (by first | omega | simp <;> omega); simp [parseN, Arr.get, e2, e3, e4, ← hdg])) (Has.take (Repl.box (by repeat first | exact R0 | apply RT) (by first | rfl | simp)) Has.nil))
  try simp only [BS, ne_eq] at h1
  refine J_exit ?_
  refine J_then_exit ?_
  refine J_then_exit ?_
  refine J_blk_out ?_
  refine J_then_normal ?_
  refine JSR ?_
  refine JQ (Q_loadB (.tmp rfl) (by repeat first | exact R0 | apply RT) Lens.id T37 (by (try dsimp only) <;> rfl)) rfl ?_
  refine J_store (.tmp rfl) (.tmp rfl) (by (try dsimp only) <;> rfl) (by repeat first | exact R1 | apply RT) Lens.id T37.size ?_
  refine JQ (Q_assign At.int) rfl ?_
  refine JN ?_
  refine J_retc ?_
  obtain rfl : k = 40 := (by first | omega | simp <;> omega)
  rw [List.take_of_length_le (by first | omega | simp <;> omega)] at hx
  exact J_ret2 rfl (ResAt.box rfl (by repeat first | exact R0 | apply RT) T37) (ResAt.tmp rfl) () trivial Split.nil (imp_eq (by unfold parseB; rw [if_pos ⟨by omega, by unfold isHexB; rw [List.all_eq_true]; intro c hc; simpa using hx c hc⟩]))
theorem rLine_c (b : Bytes) (a : Nat) (w : Bytes) (hb : b.length ≤ 1048576) (ha : a ≤ b.length) (hw : w.length ≤ 1000) : FnP Tryz.prog 70 [Sl b, VInt .i64 (a : Nat), VStr w] (VTup [VStr (lineB b a w).1, VInt .i64 ((lineB b a w).2.1 : Nat), VBool (lineB b a w).2.2]) := by
  refine FnP_intro (by kernel_rfl) Tryz.func70 rfl Tryz.ntmps70 rfl (fun e => ?_)
  refine JSR ?_
  refine JQ (Q_assign At.str) rfl ?_
  refine JQ (Q_assign At.int) rfl ?_
  refine JQ (Q_assign At.bool) rfl ?_
  refine JNSR ?_
  refine JM rfl rfl ?_
  refine JA rfl rfl ?_
  refine JN ?_
  refine J_seq ?_
  refine J_block ?_
  refine J_loopU (ι := Nat) (fun i => a ≤ i ∧ i ≤ b.length ∧ eolB b i = eolB b a) (fun i => [(9, VInt .i64 (i : Nat))]) [(0, _), (1, _), (2, _), (6, _), (7, _), (8, _)] (fun i => []) (fun i => b.length - i) (a) ⟨by omega, by omega, rfl⟩ ⟨fe rfl (by first | rfl | exact vint_eq (by first | omega | simp <;> omega) | exact vsl_eq (by simp) | exact vstr_eq (by simp)), trivial⟩ ⟨rfl, rfl, rfl, rfl, rfl, rfl, trivial⟩ Has.nil (fun i hq => ?_)
  obtain ⟨hai, hi, hei⟩ := hq
  refine J_seq ?_
  refine JSR ?_
  refine JM rfl rfl ?_
  refine JM rfl rfl ?_
  refine JQ (Q_len Tryz.underlying23 rfl (.tmp rfl)) rfl ?_
  refine JQ (Q_lss (.tmp rfl) (.tmp rfl)) rfl ?_
  refine JM rfl rfl ?_
  refine J_qstep (QG rfl rfl rfl rfl rfl opt_bool (fun hg => Q_move (.tmp rfl))) rfl rfl ?_
  refine J_qstep (QG rfl rfl rfl rfl rfl opt_bool (fun hg => Q_move (.tmp rfl))) rfl rfl ?_
  refine J_qstep (QG rfl rfl rfl rfl rfl opt_bool (fun hg => (by have hg0 := hg; simp only [BS, ne_eq] at hg0; exact Q_idxAddrZ Tryz.underlying23 T5.size (At.opt rfl (by first | exact hg | (simp only [BS, ne_eq] at hg ⊢; first | exact hg | simp_all))) (At.opt rfl (by first | exact hg | (simp only [BS, ne_eq] at hg ⊢; first | exact hg | simp_all))) (by first | omega | simp <;> omega) (by first | omega | simp <;> omega)))) rfl rfl ?_
  refine J_qstep (QG rfl rfl rfl rfl rfl opt_bool (fun hg => (by have hg0 := hg; simp only [BS, ne_eq] at hg0; exact Q_load (At.opt rfl (by first | exact hg | (simp only [BS, ne_eq] at hg ⊢; first | exact hg | simp_all))) T5))) rfl rfl ?_
  refine J_qstep (QG rfl rfl rfl rfl rfl opt_bool (fun hg => (by have hg0 := hg; simp only [BS, ne_eq] at hg0; exact Q_neq8 (At.opt rfl (by first | exact hg | (simp only [BS, ne_eq] at hg ⊢; first | exact hg | simp_all))) (At.k8 (z := 10) (by decide))))) rfl rfl ?_
  refine JQ (Q_andB (.tmp rfl) (fun hb => At.opt rfl (by simp only [BS, ne_eq] at hb ⊢; first | exact hb | simp_all))) rfl ?_
  refine JN ?_
  refine J_cond (.tmp rfl) (fun h0 => ?_) (fun h0 => ?_)
  · try simp only [BS, ne_eq] at h0
    refine J_skip ?_
    refine J_then_normal ?_
    refine J_block ?_
    refine J_region ?_
    refine JM rfl rfl ?_
    refine JQ (Q_addi (.tmp rfl) At.int (by first | omega | simp <;> omega) (by first | omega | simp <;> omega)) rfl ?_
    refine JA rfl rfl ?_
    refine J_nil ?_
    refine J_blk_normal ?_
    refine J_then_normal ?_
    have hgz : b.getD ((i : Nat) : Int).toNat GoZero.z = b[i] := by simp [List.getD_eq_getElem?_getD, show i < b.length by omega]
    rw [hgz] at h0
    refine J_back (i + 1) ?_ ?_ ?_ ?_
    · exact ⟨⟨by omega, by omega, by rw [← hei]; exact eolB_go (by first | omega | simp <;> omega) h0.2⟩, by omega⟩
    · exact ⟨fe rfl (by first | rfl | exact vint_eq (by first | omega | simp <;> omega) | exact vsl_eq (by simp) | exact vstr_eq (by simp)), trivial⟩
    · exact ⟨rfl, rfl, rfl, rfl, rfl, rfl, trivial⟩
    · exact Has.nil
  try simp only [BS, ne_eq] at h0
  refine J_exit ?_
  refine J_then_exit ?_
  refine J_then_exit ?_
  refine J_blk_out ?_
  refine J_then_normal ?_
  refine J_seq ?_
  refine J_seq ?_
  have hee : eolB b a = i := by rw [← hei]; exact eolB_stop (fun hlt => by rcases h0 with h0 | h0; (omega); (have hgz : b.getD ((i : Nat) : Int).toNat GoZero.z = b[i] := (by simp [List.getD_eq_getElem?_getD, hlt]); rw [hgz] at h0; exact h0))
  refine J_region ?_
  refine JM rfl rfl ?_
  refine JM rfl rfl ?_
  refine JQ (Q_len Tryz.underlying23 rfl (.tmp rfl)) rfl ?_
  refine JQ (Q_eql (.tmp rfl) (.tmp rfl)) rfl ?_
  refine JM rfl rfl ?_
  refine J_qstep (QG rfl rfl rfl rfl rfl opt_bool (fun hg => Q_move (.tmp rfl))) rfl rfl ?_
  refine J_qstep (QG rfl rfl rfl rfl rfl opt_bool (fun hg => Q_move (.tmp rfl))) rfl rfl ?_
  refine J_qstep (QG rfl rfl rfl rfl rfl opt_bool (fun hg => (by have hg0 := hg; simp only [BS, ne_eq] at hg0; exact Q_subi (At.opt rfl (by first | exact hg | (simp only [BS, ne_eq] at hg ⊢; first | exact hg | simp_all))) (At.opt rfl (by first | exact hg | (simp only [BS, ne_eq] at hg ⊢; first | exact hg | simp_all))) (by first | omega | simp <;> omega) (by first | omega | simp <;> omega)))) rfl rfl ?_
  refine J_qstep (QG rfl rfl rfl rfl rfl opt_bool (fun hg => Q_move (.tmp rfl))) rfl rfl ?_
  refine J_qstep (QG rfl rfl rfl rfl rfl opt_bool (fun hg => (by have hg0 := hg; simp only [BS, ne_eq] at hg0; exact Q_lens Tryz.underlying9 rfl (At.opt rfl (by first | exact hg | (simp only [BS, ne_eq] at hg ⊢; first | exact hg | simp_all)))))) rfl rfl ?_
  refine J_qstep (QG rfl rfl rfl rfl rfl opt_bool (fun hg => (by have hg0 := hg; simp only [BS, ne_eq] at hg0; exact Q_addi (At.opt rfl (by first | exact hg | (simp only [BS, ne_eq] at hg ⊢; first | exact hg | simp_all))) At.int (by first | omega | simp <;> omega) (by first | omega | simp <;> omega)))) rfl rfl ?_
  refine J_qstep (QG rfl rfl rfl rfl rfl opt_bool (fun hg => (by have hg0 := hg; simp only [BS, ne_eq] at hg0; exact Q_lss (At.opt rfl (by first | exact hg | (simp only [BS, ne_eq] at hg ⊢; first | exact hg | simp_all))) (At.opt rfl (by first | exact hg | (simp only [BS, ne_eq] at hg ⊢; first | exact hg | simp_all)))))) rfl rfl ?_
  refine JQ (Q_orB (.tmp rfl) (fun hb => At.opt rfl (by simp only [BS, ne_eq] at hb ⊢; first | exact hb | simp_all))) rfl ?_
  refine JM rfl rfl ?_
  refine J_qstep (QG rfl rfl rfl rfl rfl opt_bool (fun hg => Q_move (.tmp rfl))) rfl rfl ?_
  refine J_qstep (QG rfl rfl rfl rfl rfl opt_bool (fun hg => Q_move (.tmp rfl))) rfl rfl ?_
  refine J_qstep (QG rfl rfl rfl rfl rfl opt_bool (fun hg => Q_move (.tmp rfl))) rfl rfl ?_
  refine J_qstep (QG rfl rfl rfl rfl rfl opt_bool (fun hg => Q_move (.tmp rfl))) rfl rfl ?_
  refine J_qstep (QG rfl rfl rfl rfl rfl opt_bool (fun hg => (by have hg0 := hg; simp only [BS, ne_eq] at hg0; exact Q_lens Tryz.underlying9 rfl (At.opt rfl (by first | exact hg | (simp only [BS, ne_eq] at hg ⊢; first | exact hg | simp_all)))))) rfl rfl ?_
  refine J_qstep (QG rfl rfl rfl rfl rfl opt_bool (fun hg => (by have hg0 := hg; simp only [BS, ne_eq] at hg0; exact Q_addi (At.opt rfl (by first | exact hg | (simp only [BS, ne_eq] at hg ⊢; first | exact hg | simp_all))) (At.opt rfl (by first | exact hg | (simp only [BS, ne_eq] at hg ⊢; first | exact hg | simp_all))) (by first | omega | simp <;> omega) (by first | omega | simp <;> omega)))) rfl rfl ?_
  refine J_qstep (QG rfl rfl rfl rfl rfl opt_bool (fun hg => (by have hg0 := hg; simp only [BS, ne_eq] at hg0; exact Q_addi (At.opt rfl (by first | exact hg | (simp only [BS, ne_eq] at hg ⊢; first | exact hg | simp_all))) At.int (by first | omega | simp <;> omega) (by first | omega | simp <;> omega)))) rfl rfl ?_
  refine J_qstep (QG rfl rfl rfl rfl rfl opt_bool (fun hg => (by have hg0 := hg; simp only [BS, ne_eq] at hg0; exact Q_slice Tryz.underlying23 T5.size (At.opt rfl (by first | exact hg | (simp only [BS, ne_eq] at hg ⊢; first | exact hg | simp_all))) ⟨_, (At.opt rfl (by first | exact hg | (simp only [BS, ne_eq] at hg ⊢; first | exact hg | simp_all)))⟩ ⟨_, (At.opt rfl (by first | exact hg | (simp only [BS, ne_eq] at hg ⊢; first | exact hg | simp_all)))⟩ (by first | omega | simp <;> omega) (by first | omega | simp <;> omega) (by first | omega | simp <;> omega)))) rfl rfl ?_
  refine J_qstep (QG rfl rfl rfl rfl rfl opt_bool (fun hg => (by have hg0 := hg; simp only [BS, ne_eq] at hg0; exact Q_toStr Tryz.underlying23 Tryz.underlying5 Tryz.underlying9 (At.opt rfl (by first | exact hg | (simp only [BS, ne_eq] at hg ⊢; first | exact hg | simp_all)))))) rfl rfl ?_
  refine J_qstep (QG rfl rfl rfl rfl rfl opt_bool (fun hg => Q_move (.tmp rfl))) rfl rfl ?_
  refine J_qstep (QG rfl rfl rfl rfl rfl opt_bool (fun hg => (by have hg0 := hg; simp only [BS, ne_eq] at hg0; exact Q_cat (At.opt rfl (by first | exact hg | (simp only [BS, ne_eq] at hg ⊢; first | exact hg | simp_all))) At.str (by simp; omega)))) rfl rfl ?_
  refine J_qstep (QG rfl rfl rfl rfl rfl opt_bool (fun hg => (by have hg0 := hg; simp only [BS, ne_eq] at hg0; exact Q_neqs (At.opt rfl (by first | exact hg | (simp only [BS, ne_eq] at hg ⊢; first | exact hg | simp_all))) (At.opt rfl (by first | exact hg | (simp only [BS, ne_eq] at hg ⊢; first | exact hg | simp_all)))))) rfl rfl ?_
  refine JQ (Q_orB (.tmp rfl) (fun hb => At.opt rfl (by simp only [BS, ne_eq] at hb ⊢; first | exact hb | simp_all))) rfl ?_
  refine JN ?_
  refine J_cond (.tmp rfl) (fun h1 => ?_) (fun h1 => ?_)
  · try simp only [BS, ne_eq] at h1
    have ew : ((a : Int) + ((w.length : Nat) : Int) + 1).toNat = a + w.length + 1 := (by first | omega | simp <;> omega)
    simp only [ew, Int.toNat_natCast] at h1
    refine JSR ?_
    refine JM rfl rfl ?_
    refine JQ (Q_assign At.str) rfl ?_
    refine JA rfl rfl ?_
    refine JQ (Q_assign At.bool) rfl ?_
    refine JN ?_
    refine J_retc ?_
    refine J_then_ret ?_
    exact J_ret3 rfl (ResAt.tmp rfl) (ResAt.tmp rfl) (ResAt.tmp rfl) () trivial Split.nil (imp_eq (by unfold lineB; rw [hee, if_pos (by rcases h1 with (h1 | h1) | h1; (exact .inl (by first | omega | simp <;> omega)); (exact .inr (.inl (by first | omega | simp <;> omega))); (exact .inr (.inr h1)))]))
  try simp only [BS, ne_eq] at h1
  have ew : ((a : Int) + ((w.length : Nat) : Int) + 1).toNat = a + w.length + 1 := (by first | omega | simp <;> omega)
  simp only [ew, Int.toNat_natCast] at h1
  refine J_skip ?_
  refine J_then_normal ?_
  refine JSR ?_
  refine JM rfl rfl ?_
  refine JM rfl rfl ?_
  refine JM rfl rfl ?_
  refine JQ (Q_lens Tryz.underlying9 rfl (.tmp rfl)) rfl ?_
  refine JQ (Quiet.imp (Q_addi (.tmp rfl) (.tmp rfl) (by first | omega | simp <;> omega) (by first | omega | simp <;> omega)) (imp_eq (vint_eq (show _ = ((a + w.length : Nat) : Int) by first | omega | (simp; omega))))) rfl ?_
  refine JQ (Quiet.imp (Q_addi (.tmp rfl) At.int (by first | omega | simp <;> omega) (by first | omega | simp <;> omega)) (imp_eq (vint_eq (show _ = ((a + w.length + 1 : Nat) : Int) by first | omega | (simp; omega))))) rfl ?_
  refine JM rfl rfl ?_
  refine JQ (Q_slice Tryz.underlying23 T5.size (.tmp rfl) ⟨_, (.tmp rfl)⟩ ⟨_, (.tmp rfl)⟩ (by first | omega | simp <;> omega) (by first | omega | simp <;> omega) (by first | omega | simp <;> omega)) rfl ?_
  refine JQ (Q_toStr Tryz.underlying23 Tryz.underlying5 Tryz.underlying9 (.tmp rfl)) rfl ?_
  refine JM rfl rfl ?_
  refine JQ (Quiet.imp (Q_addi (.tmp rfl) At.int (by first | omega | simp <;> omega) (by first | omega | simp <;> omega)) (imp_eq (vint_eq (show _ = ((i + 1 : Nat) : Int) by first | omega | (simp; omega))))) rfl ?_
  refine JA rfl rfl ?_
  refine JA rfl rfl ?_
  refine JQ (Q_assign At.bool) rfl ?_
  refine JN ?_
  refine J_retc ?_
  exact J_ret3 rfl (ResAt.tmp rfl) (ResAt.tmp rfl) (ResAt.tmp rfl) () trivial Split.nil (imp_eq (by unfold lineB; rw [hee, if_neg (by rintro (q | q | q); (omega); (omega); (exact q h1.2))]; simp [ew]))
end Go.Sep
namespace Go.Sep
open Go Go.Proofs
open Enc (V)
theorem ZY109 : GoZ Tryz.prog 109 (GoZero.z : CommitX) := goZ _ (by kernel_rfl)
theorem TY44 : GoT Tryz.prog 44 Exact := ⟨by kernel_rfl, by kernel_rfl⟩
def parS (ps : List Oid) : Bs := ps.flatMap fun p => bParent ++ hexR p ++ [10]
theorem parS_s {l : List Oid} {k : Nat} (h : k < l.length) : parS (l.take (k + 1)) = parS (l.take k) ++ (bParent ++ hexR l[k] ++ [10]) := by
  unfold parS; rw [List.take_succ_eq_append_getElem h, List.flatMap_append]; simp
theorem hexR_len (id : Oid) : (hexR id).length = 40 := hexN_len id 20
theorem parS_len (l : List Oid) : (parS l).length = l.length * 48 := by
  induction l with
  | nil => rfl
  | cons x l ih =>
    have : parS (x :: l) = (bParent ++ hexR x ++ [10]) ++ parS l := rfl
    rw [this, List.length_append, ih, List.length_cons]
    simp [hexR_len, bParent]; omega
def sayC (c : CommitD) : Bs := bTree ++ hexR c.1 ++ [10] ++ parS c.2.1 ++ bAuthor ++ c.2.2.1.l ++ [10] ++ bCommitter ++ c.2.2.2.1.l ++ [10] ++ [10] ++ c.2.2.2.2.l
def encCommitB (c : CommitD) : Bs × Int := if 512 < c.2.1.length ∨ twiceB c.2.1 = true ∨ textB c.2.2.1.l 200 = false ∨ textB c.2.2.2.1.l 200 = false then ([], 1) else if 16384 < (sayC c).length then ([], 5) else (sayC c, 0)
attribute [local irreducible] Quiet QStep J At FnX Fn FnP Repl Split Has Post Back GoZ
theorem rEncCommit_c (c : CommitD) (h1' : c.2.2.1.l.length ≤ 1048576) (h2' : c.2.2.2.1.l.length ≤ 1048576) (h3' : c.2.2.2.2.l.length ≤ 1048576) : FnP Tryz.prog 72 [V c] (VTup [Sl (encCommitB c).1, VInt .i64 (encCommitB c).2]) := by
  have hh := hexR_len c.1
  refine FnP_intro (by kernel_rfl) Tryz.func72 rfl Tryz.ntmps72 rfl (fun e => ?_)
  refine JSR ?_
  refine J_boxI (α := ((Arr 20 UInt8) × (List (Arr 20 UInt8)) × Str × Str × Str)) (.tmp rfl) rfl ?_
  refine JQ (Q_assign (At.nils (α := UInt8))) rfl ?_
  refine JQ (Q_assign At.int) rfl ?_
  refine JNSSR ?_
  refine JQ (Q_fieldAddrI F109_1 (by decide) (Lens.snd (Lens.fst Lens.id) (by first | rfl | (simp only [Enc.size, Nat.zero_add, Nat.mul_one, Nat.add_zero]; omega))) (.tmp rfl)) rfl ?_
  refine JQ (Q_load (.tmp rfl) T44) rfl ?_
  refine JQ (Q_len Tryz.underlying44 rfl (.tmp rfl)) rfl ?_
  refine JQ (Q_gtr (.tmp rfl) At.int) rfl ?_
  refine JM rfl rfl ?_
  refine J_qstep (QG rfl rfl rfl rfl rfl opt_bool (fun hg => (by have hg0 := hg; simp only [BS, ne_eq] at hg0; exact Q_fieldAddrI F109_1 (by decide) (Lens.snd (Lens.fst Lens.id) (by first | rfl | (simp only [Enc.size, Nat.zero_add, Nat.mul_one, Nat.add_zero]; omega))) (.tmp rfl)))) rfl rfl ?_
  refine J_qstep (QG rfl rfl rfl rfl rfl opt_bool (fun hg => (by have hg0 := hg; simp only [BS, ne_eq] at hg0; exact Q_load (At.opt rfl (by first | exact hg | (simp only [BS, ne_eq] at hg ⊢; first | exact hg | simp_all))) T44))) rfl rfl ?_
  refine J_qstep (QG rfl rfl rfl rfl rfl opt_bool (fun hg => (by have hg0 := hg; simp only [BS, ne_eq] at hg0; exact Q_call (rTwice_c _) ⟨(At.opt rfl (by first | exact hg | (simp only [BS, ne_eq] at hg ⊢; first | exact hg | simp_all))), trivial⟩))) rfl rfl ?_
  refine JQ (Q_orB (.tmp rfl) (fun hb => At.opt rfl (by simp only [BS, ne_eq] at hb ⊢; first | exact hb | simp_all))) rfl ?_
  refine JM rfl rfl ?_
  refine J_qstep (QG rfl rfl rfl rfl rfl opt_bool (fun hg => (by have hg0 := hg; simp only [BS, ne_eq] at hg0; exact Q_fieldAddrI F109_2 (by decide) (Lens.snd (Lens.snd (Lens.fst Lens.id) (by first | rfl | (simp only [Enc.size, Nat.zero_add, Nat.mul_one, Nat.add_zero]; omega))) (by first | rfl | (simp only [Enc.size, Nat.zero_add, Nat.mul_one, Nat.add_zero]; omega))) (.tmp rfl)))) rfl rfl ?_
  refine J_qstep (QG rfl rfl rfl rfl rfl opt_bool (fun hg => (by have hg0 := hg; simp only [BS, ne_eq] at hg0; exact Q_strOf (Q_load (At.opt rfl (by first | exact hg | (simp only [BS, ne_eq] at hg ⊢; first | exact hg | simp_all))) T9) (by (try dsimp only) <;> rfl)))) rfl rfl ?_
  refine J_qstep (QG rfl rfl rfl rfl rfl opt_bool (fun hg => (by have hg0 := hg; simp only [BS, ne_eq] at hg0; exact Q_call (rText_c _ _ (Nat.le_trans h1' (by first | omega | simp <;> omega))) ⟨(At.opt rfl (by first | exact hg | (simp only [BS, ne_eq] at hg ⊢; first | exact hg | simp_all))), At.int, trivial⟩))) rfl rfl ?_
  refine J_qstep (QG rfl rfl rfl rfl rfl opt_bool (fun hg => (by have hg0 := hg; simp only [BS, ne_eq] at hg0; exact Q_not (At.opt rfl (by first | exact hg | (simp only [BS, ne_eq] at hg ⊢; first | exact hg | simp_all)))))) rfl rfl ?_
  refine JQ (Q_orB (.tmp rfl) (fun hb => At.opt rfl (by simp only [BS, ne_eq] at hb ⊢; first | exact hb | simp_all))) rfl ?_
  refine JM rfl rfl ?_
  refine J_qstep (QG rfl rfl rfl rfl rfl opt_bool (fun hg => (by have hg0 := hg; simp only [BS, ne_eq] at hg0; exact Q_fieldAddrI F109_3 (by decide) (Lens.snd (Lens.snd (Lens.snd (Lens.fst Lens.id) (by first | rfl | (simp only [Enc.size, Nat.zero_add, Nat.mul_one, Nat.add_zero]; omega))) (by first | rfl | (simp only [Enc.size, Nat.zero_add, Nat.mul_one, Nat.add_zero]; omega))) (by first | rfl | (simp only [Enc.size, Nat.zero_add, Nat.mul_one, Nat.add_zero]; omega))) (.tmp rfl)))) rfl rfl ?_
  refine J_qstep (QG rfl rfl rfl rfl rfl opt_bool (fun hg => (by have hg0 := hg; simp only [BS, ne_eq] at hg0; exact Q_strOf (Q_load (At.opt rfl (by first | exact hg | (simp only [BS, ne_eq] at hg ⊢; first | exact hg | simp_all))) T9) (by (try dsimp only) <;> rfl)))) rfl rfl ?_
  refine J_qstep (QG rfl rfl rfl rfl rfl opt_bool (fun hg => (by have hg0 := hg; simp only [BS, ne_eq] at hg0; exact Q_call (rText_c _ _ (Nat.le_trans h2' (by first | omega | simp <;> omega))) ⟨(At.opt rfl (by first | exact hg | (simp only [BS, ne_eq] at hg ⊢; first | exact hg | simp_all))), At.int, trivial⟩))) rfl rfl ?_
  refine J_qstep (QG rfl rfl rfl rfl rfl opt_bool (fun hg => (by have hg0 := hg; simp only [BS, ne_eq] at hg0; exact Q_not (At.opt rfl (by first | exact hg | (simp only [BS, ne_eq] at hg ⊢; first | exact hg | simp_all)))))) rfl rfl ?_
  refine JQ (Q_orB (.tmp rfl) (fun hb => At.opt rfl (by simp only [BS, ne_eq] at hb ⊢; first | exact hb | simp_all))) rfl ?_
  refine JN ?_
  refine J_cond (.tmp rfl) (fun h0 => ?_) (fun h0 => ?_)
  · try simp only [BS, ne_eq] at h0
    refine JSR ?_
    refine JQ (Q_assign (At.nils (α := UInt8))) rfl ?_
    refine JQ (Q_assign At.int) rfl ?_
    refine JN ?_
    refine J_retc ?_
    refine J_then_ret ?_
    exact J_ret2 rfl (ResAt.tmp rfl) (ResAt.tmp rfl) () trivial Split.nil (imp_eq (by unfold encCommitB; rw [if_pos (by rcases h0 with ((h0 | h0) | h0) | h0; (exact .inl (by first | omega | simp <;> omega)); (exact .inr (.inl h0)); (exact .inr (.inr (.inl h0))); (exact .inr (.inr (.inr h0))))]))
  try simp only [BS, ne_eq] at h0
  refine J_skip ?_
  refine J_then_normal ?_
  refine JSR ?_
  refine JQ (Q_fieldAddrI F109_0 (by decide) (Lens.fst Lens.id) (.tmp rfl)) rfl ?_
  refine JQ (Q_load (.tmp rfl) T37) rfl ?_
  refine JQ (Q_call (rHex_c _) ⟨(.tmp rfl), trivial⟩) rfl ?_
  refine JQ (Q_cat At.str (.tmp rfl) (by simp; omega)) rfl ?_
  refine JQ (Q_call (rNl_c) trivial) rfl ?_
  refine JQ (Q_cat (.tmp rfl) (.tmp rfl) (by simp; omega)) rfl ?_
  refine JA rfl rfl ?_
  refine JNSSR ?_
  refine JQ (Q_assign At.int) rfl ?_
  refine JN ?_
  refine J_block ?_
  have h512 : c.2.1.length ≤ 512 := (by first | omega | simp <;> omega)
  refine J_loopU (ι := Nat) (fun k => k ≤ c.2.1.length) (fun k => [(5, VInt .i64 (k : Nat)), (4, VStr (bTree ++ hexR c.1 ++ [10] ++ parS (c.2.1.take k)))]) [(1, _), (2, _), (3, _)] (fun k => []) (fun k => c.2.1.length - k) (0) (by first | omega | simp <;> omega) ⟨fe rfl (by first | rfl | exact vint_eq (by first | omega | simp <;> omega) | exact vsl_eq (by simp) | exact vstr_eq (by simp)), fe rfl (by exact vstr_eq (by simp [parS, bTree])), trivial⟩ ⟨rfl, rfl, rfl, trivial⟩ Has.nil (fun k hk => ?_)
  skip
  have hpl := parS_len (c.2.1.take k)
  rw [List.length_take] at hpl
  have hbt : bTree.length = 5 := rfl
  refine J_seq ?_
  refine JSR ?_
  refine JM rfl rfl ?_
  refine JQ (Q_fieldAddrI F109_1 (by decide) (Lens.snd (Lens.fst Lens.id) (by first | rfl | (simp only [Enc.size, Nat.zero_add, Nat.mul_one, Nat.add_zero]; omega))) (.tmp rfl)) rfl ?_
  refine JQ (Q_load (.tmp rfl) T44) rfl ?_
  refine JQ (Q_len Tryz.underlying44 rfl (.tmp rfl)) rfl ?_
  refine JQ (Q_lss (.tmp rfl) (.tmp rfl)) rfl ?_
  refine JN ?_
  refine J_cond (.tmp rfl) (fun h1 => ?_) (fun h1 => ?_)
  · try simp only [BS, ne_eq] at h1
    have hhk := hexR_len c.2.1[k]
    refine J_skip ?_
    refine J_then_normal ?_
    refine J_seq ?_
    refine J_block ?_
    refine J_region ?_
    refine JM rfl rfl ?_
    refine JQ (Q_cat (.tmp rfl) At.str (by simp; omega)) rfl ?_
    refine JQ (Q_fieldAddrI F109_1 (by decide) (Lens.snd (Lens.fst Lens.id) (by first | rfl | (simp only [Enc.size, Nat.zero_add, Nat.mul_one, Nat.add_zero]; omega))) (.tmp rfl)) rfl ?_
    refine JQ (Q_load (.tmp rfl) T44) rfl ?_
    refine JM rfl rfl ?_
    refine JQ (by first | exact Q_idxAddrN Tryz.underlying44 T37.size (.tmp rfl) (.tmp rfl) (by first | omega | simp <;> omega) | exact Q_idxAddr Tryz.underlying44 T37.size (.tmp rfl) (.tmp rfl) (by first | omega | simp <;> omega) (by first | omega | simp <;> omega)) rfl ?_
    refine JQ (Q_load (.tmp rfl) T37) rfl ?_
    refine JQ (Q_call (rHex_c _) ⟨(.tmp rfl), trivial⟩) rfl ?_
    refine JQ (Q_cat (.tmp rfl) (.tmp rfl) (by simp; omega)) rfl ?_
    refine JQ (Q_call (rNl_c) trivial) rfl ?_
    refine JQ (Q_cat (.tmp rfl) (.tmp rfl) (by simp; omega)) rfl ?_
    refine JA rfl rfl ?_
    refine J_nil ?_
    refine J_blk_normal ?_
    refine J_then_normal ?_
    refine J_region ?_
    refine JM rfl rfl ?_
    refine JQ (Q_addi (.tmp rfl) At.int (by first | omega | simp <;> omega) (by first | omega | simp <;> omega)) rfl ?_
    refine JA rfl rfl ?_
    refine JN ?_
    refine J_back (k + 1) ?_ ?_ ?_ ?_
    · exact ⟨by omega, by omega⟩
    · exact ⟨fe rfl (by first | rfl | exact vint_eq (by first | omega | simp <;> omega) | exact vsl_eq (by simp) | exact vstr_eq (by simp)), fe rfl (by exact vstr_eq (by rw [parS_s (show k < c.2.1.length by omega)]; simp [bParent])), trivial⟩
    · exact ⟨rfl, rfl, rfl, trivial⟩
    · exact Has.nil
  try simp only [BS, ne_eq] at h1
  refine J_exit ?_
  refine J_then_exit ?_
  refine J_then_exit ?_
  refine J_blk_out ?_
  refine J_then_normal ?_
  refine J_seq ?_
  obtain hk2 : k = c.2.1.length := (by first | omega | simp <;> omega)
  rw [hk2, List.take_length] at hpl ⊢
  refine J_draw mix 19 [51, 52, 53, 54, 55, 56, 57, 58, 59, 60, 61, 62, 63, 64, 65, 66, 67, 68, 4] [_, _, _, _, _, _, _, _, _, _, _, _, _, _, _, _, _, _, _] rfl rfl (by kernel_rfl) (by kernel_rfl) (by kernel_rfl) (by kernel_rfl) (by kernel_rfl) ⟨QS (Q_move (.tmp rfl)) rfl, QS (Q_cat (.tmp rfl) At.str (by simp; omega)) rfl, QS (Q_fieldAddrI F109_2 (by decide) (Lens.snd (Lens.snd (Lens.fst Lens.id) (by first | rfl | (simp only [Enc.size, Nat.zero_add, Nat.mul_one, Nat.add_zero]; omega))) (by first | rfl | (simp only [Enc.size, Nat.zero_add, Nat.mul_one, Nat.add_zero]; omega))) (.tmp rfl)) rfl, QS (Q_strOf (l := c.2.2.1.l) (Q_load (.tmp rfl) T9) rfl) rfl, QS (Q_cat (.tmp rfl) (.tmp rfl) (by simp; omega)) rfl, QS (Q_call (rNl_c) trivial) rfl, QS (Q_cat (.tmp rfl) (.tmp rfl) (by simp; omega)) rfl, QS (Q_cat (.tmp rfl) At.str (by simp; omega)) rfl, QS (Q_fieldAddrI F109_3 (by decide) (Lens.snd (Lens.snd (Lens.snd (Lens.fst Lens.id) (by first | rfl | (simp only [Enc.size, Nat.zero_add, Nat.mul_one, Nat.add_zero]; omega))) (by first | rfl | (simp only [Enc.size, Nat.zero_add, Nat.mul_one, Nat.add_zero]; omega))) (by first | rfl | (simp only [Enc.size, Nat.zero_add, Nat.mul_one, Nat.add_zero]; omega))) (.tmp rfl)) rfl, QS (Q_strOf (l := c.2.2.2.1.l) (Q_load (.tmp rfl) T9) rfl) rfl, QS (Q_cat (.tmp rfl) (.tmp rfl) (by simp; omega)) rfl, QS (Q_call (rNl_c) trivial) rfl, QS (Q_cat (.tmp rfl) (.tmp rfl) (by simp; omega)) rfl, QS (Q_call (rNl_c) trivial) rfl, QS (Q_cat (.tmp rfl) (.tmp rfl) (by simp; omega)) rfl, QS (Q_fieldAddrI F109_4 (by decide) (Lens.snd (Lens.snd (Lens.snd (Lens.snd Lens.id (by first | rfl | (simp only [Enc.size, Nat.zero_add, Nat.mul_one, Nat.add_zero]; omega))) (by first | rfl | (simp only [Enc.size, Nat.zero_add, Nat.mul_one, Nat.add_zero]; omega))) (by first | rfl | (simp only [Enc.size, Nat.zero_add, Nat.mul_one, Nat.add_zero]; omega))) (by first | rfl | (simp only [Enc.size, Nat.zero_add, Nat.mul_one, Nat.add_zero]; omega))) (.tmp rfl)) rfl, QS (Q_strOf (l := c.2.2.2.2.l) (Q_load (.tmp rfl) T9) rfl) rfl, QS (Q_cat (.tmp rfl) (.tmp rfl) (by simp; omega)) rfl, QS (Q_assign (.tmp rfl)) rfl, trivial⟩ ?_
  refine JNSSR ?_
  refine JM rfl rfl ?_
  refine JQ (Q_lens Tryz.underlying9 rfl (.tmp rfl)) rfl ?_
  refine JQ (Q_gtr (.tmp rfl) At.int) rfl ?_
  refine JN ?_
  refine J_cond (.tmp rfl) (fun h2 => ?_) (fun h2 => ?_)
  · try simp only [BS, ne_eq] at h2
    refine JSR ?_
    refine JQ (Q_assign (At.nils (α := UInt8))) rfl ?_
    refine JQ (Q_assign At.int) rfl ?_
    refine JN ?_
    refine J_retc ?_
    refine J_then_ret ?_
    exact J_ret2 rfl (ResAt.tmp rfl) (ResAt.tmp rfl) () trivial Split.nil (imp_eq (by unfold encCommitB; rw [if_neg (by obtain ⟨⟨⟨q1, q2⟩, q3⟩, q4⟩ := h0; rw [q2, q3, q4]; simp; omega), if_pos (by unfold sayC; simp [bAuthor, bCommitter] at h2 ⊢; omega)]))
  try simp only [BS, ne_eq] at h2
  refine J_skip ?_
  refine J_then_normal ?_
  refine JSR ?_
  refine JM rfl rfl ?_
  refine JQ (Q_toBytes Tryz.underlying9 Tryz.underlying23 Tryz.underlying5 (by simp [maxLen]; omega) (.tmp rfl)) rfl ?_
  refine JA rfl rfl ?_
  refine JQ (Q_assign At.int) rfl ?_
  refine JN ?_
  refine J_retc ?_
  exact J_ret2 rfl (ResAt.tmp rfl) (ResAt.tmp rfl) () trivial Split.nil (imp_eq (by unfold encCommitB; rw [if_neg (by obtain ⟨⟨⟨q1, q2⟩, q3⟩, q4⟩ := h0; rw [q2, q3, q4]; simp; omega), if_neg (by unfold sayC; simp [bAuthor, bCommitter] at h2 ⊢; omega)]; unfold sayC; simp [bAuthor, bCommitter]))
end Go.Sep
namespace Go.Sep
open Go Go.Proofs
open Enc (V)
attribute [local irreducible] Quiet QStep J At FnX Fn FnP Repl Split Has Post Back GoZ
attribute [local irreducible] lineB parseB encCommitB
set_option maxRecDepth 100000
theorem rDecCommit_v (b : Bytes) : FnP Tryz.prog 47 [Sl b] (VEx (fun _ : CommitD × Int => True) (fun q => VTup [V q.1, VInt .i64 q.2])) := by
  refine FnP_intro (by kernel_rfl) Tryz.func47 rfl Tryz.ntmps47 rfl (fun e => ?_)
  refine J_lenLe (t := 0) rfl (fun hl0 => ?_)
  refine JSR ?_
  refine J_alloc Z109 rfl (fun b2 => ?_)
  refine JQ (Q_assign At.int) rfl ?_
  refine JNSSR ?_
  refine JM rfl rfl ?_
  refine JQ (Q_len Tryz.underlying23 rfl (.tmp rfl)) rfl ?_
  refine JQ (Q_gtr (.tmp rfl) At.int) rfl ?_
  refine JN ?_
  refine J_cond (.tmp rfl) (fun h0 => ?_) (fun h0 => ?_)
  · try simp only [BS, ne_eq] at h0
    refine JSR ?_
    refine JQ (Q_build Z109 T109.agg (by kernel_rfl) BP.nil) rfl ?_
    refine J_store (.tmp rfl) (.tmp rfl) (by (try dsimp only) <;> rfl) (by repeat first | exact R1 | apply RT) Lens.id T109.size ?_
    refine JQ (Q_assign At.int) rfl ?_
    refine JN ?_
    refine J_retc ?_
    refine J_then_ret ?_
    exact J_ret2 rfl (ResAt.box rfl (by repeat first | exact R0 | apply RT) T109) (ResAt.tmp rfl) () trivial Split.nil (fun w T v hv => ⟨(_, _), trivial, hv⟩)
  try simp only [BS, ne_eq] at h0
  have hla := lineB_le (b := b) (a := 0) (w := [116, 114, 101, 101]) (by first | omega | simp <;> omega)
  refine J_skip ?_
  refine J_then_normal ?_
  refine JSR ?_
  refine J_alloc ZY109 rfl (fun b4 => ?_)
  refine JNSR ?_
  refine JM rfl rfl ?_
  refine JQ (Q_call (rLine_c b 0 _ (by first | omega | simp <;> omega) (by first | omega | simp <;> omega) (by simp)) ⟨(.tmp rfl), At.int, At.str, trivial⟩) rfl ?_
  refine JM rfl rfl ?_
  refine JQ (Q_extract (.tmp rfl) rfl) rfl ?_
  refine JQ (Q_extract (.tmp rfl) rfl) rfl ?_
  refine JQ (Q_extract (.tmp rfl) rfl) rfl ?_
  refine JA rfl rfl ?_
  refine JA rfl rfl ?_
  refine JA rfl rfl ?_
  refine JNSR ?_
  refine JM rfl rfl ?_
  refine JQ (Q_call (rParse_c _ (by first | omega | simp <;> omega)) ⟨(.tmp rfl), trivial⟩) rfl ?_
  refine JM rfl rfl ?_
  refine JQ (Q_extract (.tmp rfl) rfl) rfl ?_
  refine JQ (Q_extract (.tmp rfl) rfl) rfl ?_
  refine J_alloc Z37 rfl (fun b8 => ?_)
  refine J_store (.tmp rfl) (.tmp rfl) (by (try dsimp only) <;> rfl) (by repeat first | exact R1 | apply RT) Lens.id T37.size ?_
  refine J_freezeB (sl := 8) (by repeat first | exact R0 | apply RT) rfl ?_
  refine JA rfl rfl ?_
  refine JNSSR ?_
  refine JM rfl rfl ?_
  refine JQ (Q_not (.tmp rfl)) rfl ?_
  refine JM rfl rfl ?_
  refine J_qstep (QG rfl rfl rfl rfl rfl opt_bool (fun hg => Q_move (.tmp rfl))) rfl rfl ?_
  refine J_qstep (QG rfl rfl rfl rfl rfl opt_bool (fun hg => (by have hg0 := hg; simp only [BS, ne_eq] at hg0; exact Q_neq (At.opt rfl (by first | exact hg | (simp only [BS, ne_eq] at hg ⊢; first | exact hg | simp_all))) At.int))) rfl rfl ?_
  refine JQ (Q_orB (.tmp rfl) (fun hb => At.opt rfl (by simp only [BS, ne_eq] at hb ⊢; first | exact hb | simp_all))) rfl ?_
  refine JN ?_
  refine J_cond (.tmp rfl) (fun h1 => ?_) (fun h1 => ?_)
  · try simp only [BS, ne_eq] at h1
    refine JSR ?_
    refine JQ (Q_build Z109 T109.agg (by kernel_rfl) BP.nil) rfl ?_
    refine J_store (.tmp rfl) (.tmp rfl) (by (try dsimp only) <;> rfl) (by repeat first | exact R1 | apply RT) Lens.id T109.size ?_
    refine JQ (Q_assign At.int) rfl ?_
    refine JN ?_
    refine J_retc ?_
    refine J_then_ret ?_
    exact J_ret2 rfl (ResAt.box rfl (by repeat first | exact R0 | apply RT) T109) (ResAt.tmp rfl) () trivial Split.nil (fun w T v hv => ⟨(_, _), trivial, hv⟩)
  try simp only [BS, ne_eq] at h1
  refine J_rowNil (el := 37) Oid ?_
  refine J_skip ?_
  refine J_then_normal ?_
  refine JSR ?_
  refine JQ (Q_load (.tmp rfl) T37) rfl ?_
  refine JQ (Q_fieldAddrP F109_0 (by decide) (.tmp rfl)) rfl ?_
  refine J_store (.tmp rfl) (.tmp rfl) (by (try dsimp only) <;> rfl) (by repeat first | exact R1 | apply RT) (Lens.fst Lens.id) T37.size ?_
  refine JN ?_
  refine J_seq ?_
  refine J_block ?_
  refine J_loopU (ι := Nat × List Oid × Exact) (fun q => match q with | (a, ps, x) => a ≤ b.length ∧ ps.length ≤ a) (fun q => match q with | (a, ps, x) => [(6, VInt .i64 (a : Nat))]) [(0, _), (2, _), (4, _)] (fun q => match q with | (a, ps, x) => [RowR 37 x.v ps, BoxR 109 b4 (((parseB (lineB b 0 [116, 114, 101, 101]).1).1, x, ⟨[]⟩, ⟨[]⟩, ⟨[]⟩) : CommitX), BoxR 109 b2 (GoZero.z : CommitD)]) (fun q => match q with | (a, ps, x) => b.length - a) (((lineB b 0 [116, 114, 101, 101]).2.1, [], ⟨.slice none 0 0, rfl⟩)) ⟨hla.1, by simp⟩ ⟨fe rfl (by first | rfl | exact vint_eq (by first | omega | simp <;> omega) | exact vsl_eq (by simp) | exact vstr_eq (by simp)), trivial⟩ ⟨rfl, rfl, rfl, trivial⟩ (Has.take (Repl.row (by repeat first | exact R0 | apply RT) (by first | rfl | simp)) (Has.take (Repl.box (by repeat first | exact R0 | apply RT) (by first | rfl | simp)) (Has.take (Repl.box (by repeat first | exact R0 | apply RT) (by first | rfl | simp)) Has.nil))) (fun q hq => ?_)
  obtain ⟨a, ps, x⟩ := q
  try dsimp only at hq
  obtain ⟨ha, hps⟩ := hq
  have hl2 := lineB_le (b := b) (a := a) (w := [112, 97, 114, 101, 110, 116]) ha
  refine J_block ?_
  refine JSR ?_
  refine JM rfl rfl ?_
  refine JM rfl rfl ?_
  refine JQ (Q_call (rLine_c b a _ (by first | omega | simp <;> omega) (by first | omega | simp <;> omega) (by simp)) ⟨(.tmp rfl), (.tmp rfl), At.str, trivial⟩) rfl ?_
  refine JM rfl rfl ?_
  refine JQ (Q_extract (.tmp rfl) rfl) rfl ?_
  refine JQ (Q_extract (.tmp rfl) rfl) rfl ?_
  refine JQ (Q_extract (.tmp rfl) rfl) rfl ?_
  refine JA rfl rfl ?_
  refine JA rfl rfl ?_
  refine JA rfl rfl ?_
  refine JNSSR ?_
  refine JM rfl rfl ?_
  refine JQ (Q_not (.tmp rfl)) rfl ?_
  refine JN ?_
  refine J_cond (.tmp rfl) (fun h2 => ?_) (fun h2 => ?_)
  · try simp only [BS, ne_eq] at h2
    refine J_exit ?_
    refine J_then_exit ?_
    refine J_blk_by rfl ?_
    refine J_then_exit ?_
    refine J_blk_out ?_
    refine J_then_normal ?_
    refine J_seq ?_
    refine J_freezeBR (y' := (((parseB (lineB b 0 [116, 114, 101, 101]).1).1, ps, ⟨[]⟩, ⟨[]⟩, ⟨[]⟩) : CommitD)) (by repeat first | exact R0 | apply RT) (by repeat first | exact R1 | apply RT) commitX_D ?_
    have hl3 := lineB_le (b := b) (a := a) (w := [97, 117, 116, 104, 111, 114]) ha
    have hl4 := lineB_le (b := b) (a := (lineB b a [97, 117, 116, 104, 111, 114]).2.1) (w := [99, 111, 109, 109, 105, 116, 116, 101, 114]) hl3.1
    refine J_region ?_
    refine JM rfl rfl ?_
    refine JM rfl rfl ?_
    refine JQ (Q_call (rLine_c b a _ (by first | omega | simp <;> omega) (by first | omega | simp <;> omega) (by simp)) ⟨(.tmp rfl), (.tmp rfl), At.str, trivial⟩) rfl ?_
    refine JM rfl rfl ?_
    refine JQ (Q_extract (.tmp rfl) rfl) rfl ?_
    refine JQ (Q_extract (.tmp rfl) rfl) rfl ?_
    refine JQ (Q_extract (.tmp rfl) rfl) rfl ?_
    refine JA rfl rfl ?_
    refine JA rfl rfl ?_
    refine JA rfl rfl ?_
    refine JNSR ?_
    refine JM rfl rfl ?_
    refine JM rfl rfl ?_
    refine JQ (Q_call (rLine_c b (lineB b a [97, 117, 116, 104, 111, 114]).2.1 _ (by first | omega | simp <;> omega) (by first | omega | simp <;> omega) (by simp)) ⟨(.tmp rfl), (.tmp rfl), At.str, trivial⟩) rfl ?_
    refine JM rfl rfl ?_
    refine JQ (Q_extract (.tmp rfl) rfl) rfl ?_
    refine JQ (Q_extract (.tmp rfl) rfl) rfl ?_
    refine JQ (Q_extract (.tmp rfl) rfl) rfl ?_
    refine JA rfl rfl ?_
    refine JA rfl rfl ?_
    refine JA rfl rfl ?_
    refine JNSSR ?_
    refine JM rfl rfl ?_
    refine JQ (Q_not (.tmp rfl)) rfl ?_
    refine JM rfl rfl ?_
    refine J_qstep (QG rfl rfl rfl rfl rfl opt_bool (fun hg => Q_move (.tmp rfl))) rfl rfl ?_
    refine J_qstep (QG rfl rfl rfl rfl rfl opt_bool (fun hg => (by have hg0 := hg; simp only [BS, ne_eq] at hg0; exact Q_not (At.opt rfl (by first | exact hg | (simp only [BS, ne_eq] at hg ⊢; first | exact hg | simp_all)))))) rfl rfl ?_
    refine JQ (Q_orB (.tmp rfl) (fun hb => At.opt rfl (by simp only [BS, ne_eq] at hb ⊢; first | exact hb | simp_all))) rfl ?_
    refine JM rfl rfl ?_
    refine J_qstep (QG rfl rfl rfl rfl rfl opt_bool (fun hg => Q_move (.tmp rfl))) rfl rfl ?_
    refine J_qstep (QG rfl rfl rfl rfl rfl opt_bool (fun hg => Q_move (.tmp rfl))) rfl rfl ?_
    refine J_qstep (QG rfl rfl rfl rfl rfl opt_bool (fun hg => (by have hg0 := hg; simp only [BS, ne_eq] at hg0; exact Q_len Tryz.underlying23 rfl (At.opt rfl (by first | exact hg | (simp only [BS, ne_eq] at hg ⊢; first | exact hg | simp_all)))))) rfl rfl ?_
    refine J_qstep (QG rfl rfl rfl rfl rfl opt_bool (fun hg => (by have hg0 := hg; simp only [BS, ne_eq] at hg0; exact Q_geq (At.opt rfl (by first | exact hg | (simp only [BS, ne_eq] at hg ⊢; first | exact hg | simp_all))) (At.opt rfl (by first | exact hg | (simp only [BS, ne_eq] at hg ⊢; first | exact hg | simp_all)))))) rfl rfl ?_
    refine JQ (Q_orB (.tmp rfl) (fun hb => At.opt rfl (by simp only [BS, ne_eq] at hb ⊢; first | exact hb | simp_all))) rfl ?_
    refine JM rfl rfl ?_
    refine J_qstep (QG rfl rfl rfl rfl rfl opt_bool (fun hg => Q_move (.tmp rfl))) rfl rfl ?_
    refine J_qstep (QG rfl rfl rfl rfl rfl opt_bool (fun hg => Q_move (.tmp rfl))) rfl rfl ?_
    refine J_qstep (QG rfl rfl rfl rfl rfl opt_bool (fun hg => (by have hg0 := hg; simp only [BS, ne_eq] at hg0; exact Q_idxAddrZ Tryz.underlying23 T5.size (At.opt rfl (by first | exact hg | (simp only [BS, ne_eq] at hg ⊢; first | exact hg | simp_all))) (At.opt rfl (by first | exact hg | (simp only [BS, ne_eq] at hg ⊢; first | exact hg | simp_all))) (by first | omega | simp <;> omega) (by first | omega | simp <;> omega)))) rfl rfl ?_
    refine J_qstep (QG rfl rfl rfl rfl rfl opt_bool (fun hg => (by have hg0 := hg; simp only [BS, ne_eq] at hg0; exact Q_load (At.opt rfl (by first | exact hg | (simp only [BS, ne_eq] at hg ⊢; first | exact hg | simp_all))) T5))) rfl rfl ?_
    refine J_qstep (QG rfl rfl rfl rfl rfl opt_bool (fun hg => (by have hg0 := hg; simp only [BS, ne_eq] at hg0; exact Q_neq8 (At.opt rfl (by first | exact hg | (simp only [BS, ne_eq] at hg ⊢; first | exact hg | simp_all))) (At.k8 (z := 10) (by decide))))) rfl rfl ?_
    refine JQ (Q_orB (.tmp rfl) (fun hb => At.opt rfl (by simp only [BS, ne_eq] at hb ⊢; first | exact hb | simp_all))) rfl ?_
    refine JN ?_
    refine J_cond (.tmp rfl) (fun h4 => ?_) (fun h4 => ?_)
    · try simp only [BS, ne_eq] at h4
      refine JSR ?_
      refine JQ (Q_build Z109 T109.agg (by kernel_rfl) BP.nil) rfl ?_
      refine J_store (.tmp rfl) (.tmp rfl) (by (try dsimp only) <;> rfl) (by repeat first | exact R1 | apply RT) Lens.id T109.size ?_
      refine JQ (Q_assign At.int) rfl ?_
      refine JN ?_
      refine J_retc ?_
      refine J_then_ret ?_
      exact J_ret2 rfl (ResAt.box rfl (by repeat first | exact R0 | apply RT) T109) (ResAt.tmp rfl) () trivial Split.nil (fun w T v hv => ⟨(_, _), trivial, hv⟩)
    try simp only [BS, ne_eq] at h4
    refine J_skip ?_
    refine J_then_normal ?_
    refine JSR ?_
    refine JM rfl rfl ?_
    refine JQ (Q_fieldAddrP F109_2 (by decide) (.tmp rfl)) rfl ?_
    refine J_store (.tmp rfl) (At.toStr (.tmp rfl)) (by (try dsimp only) <;> rfl) (by repeat first | exact R1 | apply RT) (Lens.snd (Lens.snd (Lens.fst Lens.id) (by first | rfl | (simp only [Enc.size, Nat.zero_add, Nat.mul_one, Nat.add_zero]; omega))) (by first | rfl | (simp only [Enc.size, Nat.zero_add, Nat.mul_one, Nat.add_zero]; omega))) T9.size ?_
    refine JNSR ?_
    refine JM rfl rfl ?_
    refine JQ (Q_fieldAddrP F109_3 (by decide) (.tmp rfl)) rfl ?_
    refine J_store (.tmp rfl) (At.toStr (.tmp rfl)) (by (try dsimp only) <;> rfl) (by repeat first | exact R1 | apply RT) (Lens.snd (Lens.snd (Lens.snd (Lens.fst Lens.id) (by first | rfl | (simp only [Enc.size, Nat.zero_add, Nat.mul_one, Nat.add_zero]; omega))) (by first | rfl | (simp only [Enc.size, Nat.zero_add, Nat.mul_one, Nat.add_zero]; omega))) (by first | rfl | (simp only [Enc.size, Nat.zero_add, Nat.mul_one, Nat.add_zero]; omega))) T9.size ?_
    refine JNSR ?_
    refine JM rfl rfl ?_
    refine JM rfl rfl ?_
    refine JQ (Q_addi (.tmp rfl) At.int (by first | omega | simp <;> omega) (by first | omega | simp <;> omega)) rfl ?_
    refine JQ (Q_slice Tryz.underlying23 T5.size (.tmp rfl) ⟨_, (.tmp rfl)⟩ rfl (by first | omega | simp <;> omega) (by first | omega | simp <;> omega) (by first | omega | simp <;> omega)) rfl ?_
    refine JQ (Q_toStr Tryz.underlying23 Tryz.underlying5 Tryz.underlying9 (.tmp rfl)) rfl ?_
    refine JQ (Q_fieldAddrP F109_4 (by decide) (.tmp rfl)) rfl ?_
    refine J_store (.tmp rfl) (At.toStr (.tmp rfl)) (by (try dsimp only) <;> rfl) (by repeat first | exact R1 | apply RT) (Lens.snd (Lens.snd (Lens.snd (Lens.snd Lens.id (by first | rfl | (simp only [Enc.size, Nat.zero_add, Nat.mul_one, Nat.add_zero]; omega))) (by first | rfl | (simp only [Enc.size, Nat.zero_add, Nat.mul_one, Nat.add_zero]; omega))) (by first | rfl | (simp only [Enc.size, Nat.zero_add, Nat.mul_one, Nat.add_zero]; omega))) (by first | rfl | (simp only [Enc.size, Nat.zero_add, Nat.mul_one, Nat.add_zero]; omega))) T9.size ?_
    refine JNSR ?_
    refine JQ (Q_loadB (.tmp rfl) (by repeat first | exact R0 | apply RT) Lens.id T109 (by (try dsimp only) <;> rfl)) rfl ?_
    refine JQ (Q_call (rEncCommit_c _ (Nat.le_trans hl3.2.1 (by first | omega | simp <;> omega)) (Nat.le_trans hl4.2.1 (by first | omega | simp <;> omega)) (show List.length (List.drop _ _) ≤ _ by simp; omega)) ⟨(.tmp rfl), trivial⟩) rfl ?_
    refine JM rfl rfl ?_
    refine JQ (Q_extract (.tmp rfl) rfl) rfl ?_
    refine JQ (Q_extract (.tmp rfl) rfl) rfl ?_
    refine JA rfl rfl ?_
    refine JA rfl rfl ?_
    refine JNSSR ?_
    refine JM rfl rfl ?_
    refine JQ (Q_neq (.tmp rfl) At.int) rfl ?_
    refine JM rfl rfl ?_
    refine J_qstep (QG rfl rfl rfl rfl rfl opt_bool (fun hg => Q_move (.tmp rfl))) rfl rfl ?_
    refine J_qstep (QG rfl rfl rfl rfl rfl opt_bool (fun hg => (by have hg0 := hg; simp only [BS, ne_eq] at hg0; exact Q_toStr Tryz.underlying23 Tryz.underlying5 Tryz.underlying9 (At.opt rfl (by first | exact hg | (simp only [BS, ne_eq] at hg ⊢; first | exact hg | simp_all)))))) rfl rfl ?_
    refine J_qstep (QG rfl rfl rfl rfl rfl opt_bool (fun hg => Q_move (.tmp rfl))) rfl rfl ?_
    refine J_qstep (QG rfl rfl rfl rfl rfl opt_bool (fun hg => (by have hg0 := hg; simp only [BS, ne_eq] at hg0; exact Q_toStr Tryz.underlying23 Tryz.underlying5 Tryz.underlying9 (At.opt rfl (by first | exact hg | (simp only [BS, ne_eq] at hg ⊢; first | exact hg | simp_all)))))) rfl rfl ?_
    refine J_qstep (QG rfl rfl rfl rfl rfl opt_bool (fun hg => (by have hg0 := hg; simp only [BS, ne_eq] at hg0; exact Q_neqs (At.opt rfl (by first | exact hg | (simp only [BS, ne_eq] at hg ⊢; first | exact hg | simp_all))) (At.opt rfl (by first | exact hg | (simp only [BS, ne_eq] at hg ⊢; first | exact hg | simp_all)))))) rfl rfl ?_
    refine JQ (Q_orB (.tmp rfl) (fun hb => At.opt rfl (by simp only [BS, ne_eq] at hb ⊢; first | exact hb | simp_all))) rfl ?_
    refine JN ?_
    refine J_cond (.tmp rfl) (fun h5 => ?_) (fun h5 => ?_)
    · try simp only [BS, ne_eq] at h5
      refine JSR ?_
      refine JQ (Q_build Z109 T109.agg (by kernel_rfl) BP.nil) rfl ?_
      refine J_store (.tmp rfl) (.tmp rfl) (by (try dsimp only) <;> rfl) (by repeat first | exact R1 | apply RT) Lens.id T109.size ?_
      refine JQ (Q_assign At.int) rfl ?_
      refine JN ?_
      refine J_retc ?_
      refine J_then_ret ?_
      exact J_ret2 rfl (ResAt.box rfl (by repeat first | exact R0 | apply RT) T109) (ResAt.tmp rfl) () trivial Split.nil (fun w T v hv => ⟨(_, _), trivial, hv⟩)
    try simp only [BS, ne_eq] at h5
    refine J_skip ?_
    refine J_then_normal ?_
    refine JSR ?_
    refine JQ (Q_loadB (.tmp rfl) (by repeat first | exact R0 | apply RT) Lens.id T109 (by (try dsimp only) <;> rfl)) rfl ?_
    refine J_store (.tmp rfl) (.tmp rfl) (by (try dsimp only) <;> rfl) (by repeat first | exact R1 | apply RT) Lens.id T109.size ?_
    refine JQ (Q_assign At.int) rfl ?_
    refine JN ?_
    refine J_retc ?_
    exact J_ret2 rfl (ResAt.box rfl (by repeat first | exact R0 | apply RT) T109) (ResAt.tmp rfl) () trivial Split.nil (fun w T v hv => ⟨(_, _), trivial, hv⟩)
  try simp only [BS, ne_eq] at h2
  refine J_skip ?_
  refine J_then_normal ?_
  refine JSR ?_
  refine JM rfl rfl ?_
  refine JQ (Q_call (rParse_c _ (by first | omega | simp <;> omega)) ⟨(.tmp rfl), trivial⟩) rfl ?_
  refine JM rfl rfl ?_
  refine JQ (Q_extract (.tmp rfl) rfl) rfl ?_
  refine JQ (Q_extract (.tmp rfl) rfl) rfl ?_
  refine J_alloc Z37 rfl (fun b13 => ?_)
  refine J_store (.tmp rfl) (.tmp rfl) (by (try dsimp only) <;> rfl) (by repeat first | exact R1 | apply RT) Lens.id T37.size ?_
  refine J_freezeB (sl := 13) (by repeat first | exact R0 | apply RT) rfl ?_
  refine JA rfl rfl ?_
  refine JNSSR ?_
  refine JM rfl rfl ?_
  refine JQ (Q_neq (.tmp rfl) At.int) rfl ?_
  refine JN ?_
  refine J_cond (.tmp rfl) (fun h3 => ?_) (fun h3 => ?_)
  · try simp only [BS, ne_eq] at h3
    refine JSR ?_
    refine JQ (Q_build Z109 T109.agg (by kernel_rfl) BP.nil) rfl ?_
    refine J_store (.tmp rfl) (.tmp rfl) (by (try dsimp only) <;> rfl) (by repeat first | exact R1 | apply RT) Lens.id T109.size ?_
    refine JQ (Q_assign At.int) rfl ?_
    refine JN ?_
    refine J_retc ?_
    refine J_then_ret ?_
    refine J_blk_ret ?_
    refine J_then_ret ?_
    refine J_blk_ret ?_
    refine J_then_ret ?_
    exact J_ret2 rfl (ResAt.box rfl (by repeat first | exact R0 | apply RT) T109) (ResAt.tmp rfl) () trivial Split.nil (fun w T v hv => ⟨(_, _), trivial, hv⟩)
  try simp only [BS, ne_eq] at h3
  refine J_skip ?_
  refine J_then_normal ?_
  refine JSR ?_
  refine JQ (Q_fieldAddrP F109_1 (by decide) (.tmp rfl)) rfl ?_
  refine JQ (Q_exactOf (Q_loadB (.tmp rfl) (by repeat first | exact R0 | apply RT) (Lens.snd (Lens.fst Lens.id) (by first | rfl | (simp only [Enc.size, Nat.zero_add, Nat.mul_one, Nat.add_zero]; omega))) TY44 (by (try dsimp only) <;> rfl))) rfl ?_
  refine JQ (Q_load (.tmp rfl) T37) rfl ?_
  refine JQ (Q_buildSlice (α := (Arr 20 UInt8)) E37 Tryz.underlying44 [.tmp 66] [_] rfl rfl ⟨(.tmp rfl), trivial⟩ (Nat.le_of_ble_eq_true rfl)) rfl ?_
  refine J_append (α := (Arr 20 UInt8)) E37 Tryz.underlying44 (.tmp rfl) (.tmp rfl) (by repeat first | exact R0 | apply RT) (by first | omega | (simp; omega)) (by first | (simp only [maxLen]; omega) | (simp [maxLen]; omega)) rfl (fun v68 => ?_)
  refine JQ (Q_fieldAddrP F109_1 (by decide) (.tmp rfl)) rfl ?_
  refine J_one (by repeat first | exact R0 | apply RT) (fun ho68 => ?_)
  refine J_store (.tmp rfl) (At.exact (h := ho68) (.tmp rfl)) (by (try dsimp only) <;> rfl) (by repeat first | exact R1 | apply RT) (Lens.snd (Lens.fst Lens.id) (by first | rfl | (simp only [Enc.size, Nat.zero_add, Nat.mul_one, Nat.add_zero]; omega))) T44.size ?_
  refine JNR ?_
  refine JM rfl rfl ?_
  refine JA rfl rfl ?_
  refine J_nil ?_
  refine J_blk_normal ?_
  refine J_then_normal ?_
  have hlt := hl2.2.2.2 h2
  refine J_back (((lineB b a [112, 97, 114, 101, 110, 116]).2.1, ps ++ [(parseB (lineB b a [112, 97, 114, 101, 110, 116]).1).1], ⟨v68, ho68⟩)) ?_ ?_ ?_ ?_
  · exact ⟨⟨hl2.1, by rw [List.length_append]; simp; omega⟩, by show b.length - (lineB b a [112, 97, 114, 101, 110, 116]).2.1 < b.length - a; omega⟩
  · exact ⟨fe rfl (by first | rfl | exact vint_eq (by first | omega | simp <;> omega) | exact vsl_eq (by simp) | exact vstr_eq (by simp)), trivial⟩
  · exact ⟨rfl, rfl, rfl, trivial⟩
  · exact (Has.take (Repl.row (by repeat first | exact R0 | apply RT) (by first | rfl | simp)) (Has.take (Repl.box (by repeat first | exact R0 | apply RT) (by first | rfl | simp)) (Has.take (Repl.box (by repeat first | exact R0 | apply RT) (by first | rfl | simp)) Has.nil)))
end Go.Sep
namespace Go.Sep
open Go Go.Proofs
open Enc (V)
def sayT (t : TagD) : Bs := bObject ++ hexR t.1 ++ [10] ++ bType ++ wordB t.2.1 ++ [10] ++ bTag ++ t.2.2.1.l ++ [10] ++ bTagger ++ t.2.2.2.1.l ++ [10] ++ [10] ++ t.2.2.2.2.l
def encTagB (t : TagD) : Bs × Int := if wordB t.2.1 = [] ∨ textB t.2.2.1.l 100 = false ∨ textB t.2.2.2.1.l 200 = false then ([], 1) else if 16384 < (sayT t).length then ([], 5) else (sayT t, 0)
attribute [local irreducible] Quiet QStep J At FnX Fn FnP Repl Split Has Post Back GoZ
theorem rEncTag_c (t : TagD) (h1' : t.2.2.1.l.length ≤ 1048576) (h2' : t.2.2.2.1.l.length ≤ 1048576) (h3' : t.2.2.2.2.l.length ≤ 1048576) : FnP Tryz.prog 117 [V t] (VTup [Sl (encTagB t).1, VInt .i64 (encTagB t).2]) := by
  have hh := hexR_len t.1
  have hw := wordB_len t.2.1
  refine FnP_intro (by kernel_rfl) Tryz.func117 rfl Tryz.ntmps117 rfl (fun e => ?_)
  refine JSR ?_
  refine J_boxI (α := ((Arr 20 UInt8) × Int × Str × Str × Str)) (.tmp rfl) rfl ?_
  refine JQ (Q_assign (At.nils (α := UInt8))) rfl ?_
  refine JQ (Q_assign At.int) rfl ?_
  refine JNSSR ?_
  refine JQ (Q_fieldAddrI F156_1 (by decide) (Lens.snd (Lens.fst Lens.id) (by first | rfl | (simp only [Enc.size, Nat.zero_add, Nat.mul_one, Nat.add_zero]; omega))) (.tmp rfl)) rfl ?_
  refine JQ (Q_load (.tmp rfl) T3) rfl ?_
  refine JQ (Q_call (rWord_c _) ⟨(.tmp rfl), trivial⟩) rfl ?_
  refine JQ (Q_eqls (.tmp rfl) At.str) rfl ?_
  refine JM rfl rfl ?_
  refine J_qstep (QG rfl rfl rfl rfl rfl opt_bool (fun hg => (by have hg0 := hg; simp only [BS, ne_eq] at hg0; exact Q_fieldAddrI F156_2 (by decide) (Lens.snd (Lens.snd (Lens.fst Lens.id) (by first | rfl | (simp only [Enc.size, Nat.zero_add, Nat.mul_one, Nat.add_zero]; omega))) (by first | rfl | (simp only [Enc.size, Nat.zero_add, Nat.mul_one, Nat.add_zero]; omega))) (.tmp rfl)))) rfl rfl ?_
  refine J_qstep (QG rfl rfl rfl rfl rfl opt_bool (fun hg => (by have hg0 := hg; simp only [BS, ne_eq] at hg0; exact Q_strOf (Q_load (At.opt rfl (by first | exact hg | (simp only [BS, ne_eq] at hg ⊢; first | exact hg | simp_all))) T9) (by (try dsimp only) <;> rfl)))) rfl rfl ?_
  refine J_qstep (QG rfl rfl rfl rfl rfl opt_bool (fun hg => (by have hg0 := hg; simp only [BS, ne_eq] at hg0; exact Q_call (rText_c _ _ (Nat.le_trans h1' (by first | omega | simp <;> omega))) ⟨(At.opt rfl (by first | exact hg | (simp only [BS, ne_eq] at hg ⊢; first | exact hg | simp_all))), At.int, trivial⟩))) rfl rfl ?_
  refine J_qstep (QG rfl rfl rfl rfl rfl opt_bool (fun hg => (by have hg0 := hg; simp only [BS, ne_eq] at hg0; exact Q_not (At.opt rfl (by first | exact hg | (simp only [BS, ne_eq] at hg ⊢; first | exact hg | simp_all)))))) rfl rfl ?_
  refine JQ (Q_orB (.tmp rfl) (fun hb => At.opt rfl (by simp only [BS, ne_eq] at hb ⊢; first | exact hb | simp_all))) rfl ?_
  refine JM rfl rfl ?_
  refine J_qstep (QG rfl rfl rfl rfl rfl opt_bool (fun hg => (by have hg0 := hg; simp only [BS, ne_eq] at hg0; exact Q_fieldAddrI F156_3 (by decide) (Lens.snd (Lens.snd (Lens.snd (Lens.fst Lens.id) (by first | rfl | (simp only [Enc.size, Nat.zero_add, Nat.mul_one, Nat.add_zero]; omega))) (by first | rfl | (simp only [Enc.size, Nat.zero_add, Nat.mul_one, Nat.add_zero]; omega))) (by first | rfl | (simp only [Enc.size, Nat.zero_add, Nat.mul_one, Nat.add_zero]; omega))) (.tmp rfl)))) rfl rfl ?_
  refine J_qstep (QG rfl rfl rfl rfl rfl opt_bool (fun hg => (by have hg0 := hg; simp only [BS, ne_eq] at hg0; exact Q_strOf (Q_load (At.opt rfl (by first | exact hg | (simp only [BS, ne_eq] at hg ⊢; first | exact hg | simp_all))) T9) (by (try dsimp only) <;> rfl)))) rfl rfl ?_
  refine J_qstep (QG rfl rfl rfl rfl rfl opt_bool (fun hg => (by have hg0 := hg; simp only [BS, ne_eq] at hg0; exact Q_call (rText_c _ _ (Nat.le_trans h2' (by first | omega | simp <;> omega))) ⟨(At.opt rfl (by first | exact hg | (simp only [BS, ne_eq] at hg ⊢; first | exact hg | simp_all))), At.int, trivial⟩))) rfl rfl ?_
  refine J_qstep (QG rfl rfl rfl rfl rfl opt_bool (fun hg => (by have hg0 := hg; simp only [BS, ne_eq] at hg0; exact Q_not (At.opt rfl (by first | exact hg | (simp only [BS, ne_eq] at hg ⊢; first | exact hg | simp_all)))))) rfl rfl ?_
  refine JQ (Q_orB (.tmp rfl) (fun hb => At.opt rfl (by simp only [BS, ne_eq] at hb ⊢; first | exact hb | simp_all))) rfl ?_
  refine JN ?_
  refine J_cond (.tmp rfl) (fun h0 => ?_) (fun h0 => ?_)
  · try simp only [BS, ne_eq] at h0
    refine JSR ?_
    refine JQ (Q_assign (At.nils (α := UInt8))) rfl ?_
    refine JQ (Q_assign At.int) rfl ?_
    refine JN ?_
    refine J_retc ?_
    refine J_then_ret ?_
    exact J_ret2 rfl (ResAt.tmp rfl) (ResAt.tmp rfl) () trivial Split.nil (imp_eq (by unfold encTagB; rw [if_pos (by rcases h0 with (h0 | h0) | h0; (exact .inl h0); (exact .inr (.inl h0)); (exact .inr (.inr h0)))]))
  try simp only [BS, ne_eq] at h0
  refine J_skip ?_
  refine J_then_normal ?_
  refine J_seq ?_
  refine J_draw mix 31 [21, 22, 23, 24, 25, 26, 27, 28, 29, 30, 31, 32, 33, 34, 35, 36, 37, 38, 39, 40, 41, 42, 43, 44, 45, 46, 47, 48, 49, 50, 4] [_, _, _, _, _, _, _, _, _, _, _, _, _, _, _, _, _, _, _, _, _, _, _, _, _, _, _, _, _, _, _] rfl rfl (by kernel_rfl) (by kernel_rfl) (by kernel_rfl) (by kernel_rfl) (by kernel_rfl) ⟨QS (Q_fieldAddrI F156_0 (by decide) (Lens.fst Lens.id) (.tmp rfl)) rfl, QS (Q_load (.tmp rfl) T37) rfl, QS (Q_call (rHex_c _) ⟨(.tmp rfl), trivial⟩) rfl, QS (Q_cat At.str (.tmp rfl) (by simp; omega)) rfl, QS (Q_call (rNl_c) trivial) rfl, QS (Q_cat (.tmp rfl) (.tmp rfl) (by simp; omega)) rfl, QS (Q_cat (.tmp rfl) At.str (by simp; omega)) rfl, QS (Q_fieldAddrI F156_1 (by decide) (Lens.snd (Lens.fst Lens.id) (by first | rfl | (simp only [Enc.size, Nat.zero_add, Nat.mul_one, Nat.add_zero]; omega))) (.tmp rfl)) rfl, QS (Q_load (.tmp rfl) T3) rfl, QS (Q_call (rWord_c _) ⟨(.tmp rfl), trivial⟩) rfl, QS (Q_cat (.tmp rfl) (.tmp rfl) (by simp; omega)) rfl, QS (Q_call (rNl_c) trivial) rfl, QS (Q_cat (.tmp rfl) (.tmp rfl) (by simp; omega)) rfl, QS (Q_cat (.tmp rfl) At.str (by simp; omega)) rfl, QS (Q_fieldAddrI F156_2 (by decide) (Lens.snd (Lens.snd (Lens.fst Lens.id) (by first | rfl | (simp only [Enc.size, Nat.zero_add, Nat.mul_one, Nat.add_zero]; omega))) (by first | rfl | (simp only [Enc.size, Nat.zero_add, Nat.mul_one, Nat.add_zero]; omega))) (.tmp rfl)) rfl, QS (Q_strOf (l := t.2.2.1.l) (Q_load (.tmp rfl) T9) rfl) rfl, QS (Q_cat (.tmp rfl) (.tmp rfl) (by simp; omega)) rfl, QS (Q_call (rNl_c) trivial) rfl, QS (Q_cat (.tmp rfl) (.tmp rfl) (by simp; omega)) rfl, QS (Q_cat (.tmp rfl) At.str (by simp; omega)) rfl, QS (Q_fieldAddrI F156_3 (by decide) (Lens.snd (Lens.snd (Lens.snd (Lens.fst Lens.id) (by first | rfl | (simp only [Enc.size, Nat.zero_add, Nat.mul_one, Nat.add_zero]; omega))) (by first | rfl | (simp only [Enc.size, Nat.zero_add, Nat.mul_one, Nat.add_zero]; omega))) (by first | rfl | (simp only [Enc.size, Nat.zero_add, Nat.mul_one, Nat.add_zero]; omega))) (.tmp rfl)) rfl, QS (Q_strOf (l := t.2.2.2.1.l) (Q_load (.tmp rfl) T9) rfl) rfl, QS (Q_cat (.tmp rfl) (.tmp rfl) (by simp; omega)) rfl, QS (Q_call (rNl_c) trivial) rfl, QS (Q_cat (.tmp rfl) (.tmp rfl) (by simp; omega)) rfl, QS (Q_call (rNl_c) trivial) rfl, QS (Q_cat (.tmp rfl) (.tmp rfl) (by simp; omega)) rfl, QS (Q_fieldAddrI F156_4 (by decide) (Lens.snd (Lens.snd (Lens.snd (Lens.snd Lens.id (by first | rfl | (simp only [Enc.size, Nat.zero_add, Nat.mul_one, Nat.add_zero]; omega))) (by first | rfl | (simp only [Enc.size, Nat.zero_add, Nat.mul_one, Nat.add_zero]; omega))) (by first | rfl | (simp only [Enc.size, Nat.zero_add, Nat.mul_one, Nat.add_zero]; omega))) (by first | rfl | (simp only [Enc.size, Nat.zero_add, Nat.mul_one, Nat.add_zero]; omega))) (.tmp rfl)) rfl, QS (Q_strOf (l := t.2.2.2.2.l) (Q_load (.tmp rfl) T9) rfl) rfl, QS (Q_cat (.tmp rfl) (.tmp rfl) (by simp; omega)) rfl, QS (Q_assign (.tmp rfl)) rfl, trivial⟩ ?_
  refine JNSSR ?_
  refine JM rfl rfl ?_
  refine JQ (Q_lens Tryz.underlying9 rfl (.tmp rfl)) rfl ?_
  refine JQ (Q_gtr (.tmp rfl) At.int) rfl ?_
  refine JN ?_
  refine J_cond (.tmp rfl) (fun h1 => ?_) (fun h1 => ?_)
  · try simp only [BS, ne_eq] at h1
    refine JSR ?_
    refine JQ (Q_assign (At.nils (α := UInt8))) rfl ?_
    refine JQ (Q_assign At.int) rfl ?_
    refine JN ?_
    refine J_retc ?_
    refine J_then_ret ?_
    exact J_ret2 rfl (ResAt.tmp rfl) (ResAt.tmp rfl) () trivial Split.nil (imp_eq (by unfold encTagB; rw [if_neg (by obtain ⟨⟨q1, q2⟩, q3⟩ := h0; rw [q2, q3]; simp [q1]), if_pos (by unfold sayT; simp [bObject, bType, bTag, bTagger] at h1 ⊢; omega)]))
  try simp only [BS, ne_eq] at h1
  refine J_skip ?_
  refine J_then_normal ?_
  refine JSR ?_
  refine JM rfl rfl ?_
  refine JQ (Q_toBytes Tryz.underlying9 Tryz.underlying23 Tryz.underlying5 (by simp [maxLen]; omega) (.tmp rfl)) rfl ?_
  refine JA rfl rfl ?_
  refine JQ (Q_assign At.int) rfl ?_
  refine JN ?_
  refine J_retc ?_
  exact J_ret2 rfl (ResAt.tmp rfl) (ResAt.tmp rfl) () trivial Split.nil (imp_eq (by unfold encTagB; rw [if_neg (by obtain ⟨⟨q1, q2⟩, q3⟩ := h0; rw [q2, q3]; simp [q1]), if_neg (by unfold sayT; simp [bObject, bType, bTag, bTagger] at h1 ⊢; omega)]; unfold sayT; simp [bObject, bType, bTag, bTagger]))
end Go.Sep
namespace Go.Sep
open Go Go.Proofs
open Enc (V)
attribute [local irreducible] Quiet QStep J At FnX Fn FnP Repl Split Has Post Back GoZ
attribute [local irreducible] lineB parseB encTagB kindB
set_option maxRecDepth 100000
def lO : Bs := [111, 98, 106, 101, 99, 116]
def lY : Bs := [116, 121, 112, 101]
def lT : Bs := [116, 97, 103]
def lG : Bs := [116, 97, 103, 103, 101, 114]
theorem rDecTag_v (b : Bytes) : FnP Tryz.prog 84 [Sl b] (VEx (fun _ : TagD × Int => True) (fun q => VTup [V q.1, VInt .i64 q.2])) := by
  refine FnP_intro (by kernel_rfl) Tryz.func84 rfl Tryz.ntmps84 rfl (fun e => ?_)
  refine J_lenLe (t := 0) rfl (fun hl0 => ?_)
  refine JSR ?_
  refine J_alloc Z156 rfl (fun b2 => ?_)
  refine JQ (Q_assign At.int) rfl ?_
  refine JNSSR ?_
  refine JM rfl rfl ?_
  refine JQ (Q_len Tryz.underlying23 rfl (.tmp rfl)) rfl ?_
  refine JQ (Q_gtr (.tmp rfl) At.int) rfl ?_
  refine JN ?_
  refine J_cond (.tmp rfl) (fun h0 => ?_) (fun h0 => ?_)
  · try simp only [BS, ne_eq] at h0
    refine JSR ?_
    refine JQ (Q_build Z156 T156.agg (by kernel_rfl) BP.nil) rfl ?_
    refine J_store (.tmp rfl) (.tmp rfl) (by (try dsimp only) <;> rfl) (by repeat first | exact R1 | apply RT) Lens.id T156.size ?_
    refine JQ (Q_assign At.int) rfl ?_
    refine JN ?_
    refine J_retc ?_
    refine J_then_ret ?_
    exact J_ret2 rfl (ResAt.box rfl (by repeat first | exact R0 | apply RT) T156) (ResAt.tmp rfl) () trivial Split.nil (fun w T v hv => ⟨(_, _), trivial, hv⟩)
  try simp only [BS, ne_eq] at h0
  have l1 := lineB_le (b := b) (a := 0) (w := lO) (by first | omega | simp <;> omega)
  have l2 := lineB_le (b := b) (a := (lineB b 0 lO).2.1) (w := lY) l1.1
  have l3 := lineB_le (b := b) (a := (lineB b (lineB b 0 lO).2.1 lY).2.1) (w := lT) l2.1
  have l4 := lineB_le (b := b) (a := (lineB b (lineB b (lineB b 0 lO).2.1 lY).2.1 lT).2.1) (w := lG) l3.1
  refine J_skip ?_
  refine J_then_normal ?_
  refine JSR ?_
  refine J_alloc Z156 rfl (fun b4 => ?_)
  refine JNSR ?_
  refine JM rfl rfl ?_
  refine JQ (Q_call (rLine_c b 0 lO (by first | omega | simp <;> omega) (by first | omega | simp <;> omega) (by simp [lO])) ⟨(.tmp rfl), At.int, At.str, trivial⟩) rfl ?_
  refine JM rfl rfl ?_
  refine JQ (Q_extract (.tmp rfl) rfl) rfl ?_
  refine JQ (Q_extract (.tmp rfl) rfl) rfl ?_
  refine JQ (Q_extract (.tmp rfl) rfl) rfl ?_
  refine JA rfl rfl ?_
  refine JA rfl rfl ?_
  refine JA rfl rfl ?_
  refine JNSR ?_
  refine JM rfl rfl ?_
  refine JM rfl rfl ?_
  refine JQ (Q_call (rLine_c b (lineB b 0 lO).2.1 lY (by first | omega | simp <;> omega) (by first | omega | simp <;> omega) (by simp [lY])) ⟨(.tmp rfl), (.tmp rfl), At.str, trivial⟩) rfl ?_
  refine JM rfl rfl ?_
  refine JQ (Q_extract (.tmp rfl) rfl) rfl ?_
  refine JQ (Q_extract (.tmp rfl) rfl) rfl ?_
  refine JQ (Q_extract (.tmp rfl) rfl) rfl ?_
  refine JA rfl rfl ?_
  refine JA rfl rfl ?_
  refine JA rfl rfl ?_
  refine JNSR ?_
  refine JM rfl rfl ?_
  refine JM rfl rfl ?_
  refine JQ (Q_call (rLine_c b (lineB b (lineB b 0 lO).2.1 lY).2.1 lT (by first | omega | simp <;> omega) (by first | omega | simp <;> omega) (by simp [lT])) ⟨(.tmp rfl), (.tmp rfl), At.str, trivial⟩) rfl ?_
  refine JM rfl rfl ?_
  refine JQ (Q_extract (.tmp rfl) rfl) rfl ?_
  refine JQ (Q_extract (.tmp rfl) rfl) rfl ?_
  refine JQ (Q_extract (.tmp rfl) rfl) rfl ?_
  refine JA rfl rfl ?_
  refine JA rfl rfl ?_
  refine JA rfl rfl ?_
  refine JNSR ?_
  refine JM rfl rfl ?_
  refine JM rfl rfl ?_
  refine JQ (Q_call (rLine_c b (lineB b (lineB b (lineB b 0 lO).2.1 lY).2.1 lT).2.1 lG (by first | omega | simp <;> omega) (by first | omega | simp <;> omega) (by simp [lG])) ⟨(.tmp rfl), (.tmp rfl), At.str, trivial⟩) rfl ?_
  refine JM rfl rfl ?_
  refine JQ (Q_extract (.tmp rfl) rfl) rfl ?_
  refine JQ (Q_extract (.tmp rfl) rfl) rfl ?_
  refine JQ (Q_extract (.tmp rfl) rfl) rfl ?_
  refine JA rfl rfl ?_
  refine JA rfl rfl ?_
  refine JA rfl rfl ?_
  refine JNSSR ?_
  refine JM rfl rfl ?_
  refine JQ (Q_not (.tmp rfl)) rfl ?_
  refine JM rfl rfl ?_
  refine J_qstep (QG rfl rfl rfl rfl rfl opt_bool (fun hg => Q_move (.tmp rfl))) rfl rfl ?_
  refine J_qstep (QG rfl rfl rfl rfl rfl opt_bool (fun hg => (by have hg0 := hg; simp only [BS, ne_eq] at hg0; exact Q_not (At.opt rfl (by first | exact hg | (simp only [BS, ne_eq] at hg ⊢; first | exact hg | simp_all)))))) rfl rfl ?_
  refine JQ (Q_orB (.tmp rfl) (fun hb => At.opt rfl (by simp only [BS, ne_eq] at hb ⊢; first | exact hb | simp_all))) rfl ?_
  refine JM rfl rfl ?_
  refine J_qstep (QG rfl rfl rfl rfl rfl opt_bool (fun hg => Q_move (.tmp rfl))) rfl rfl ?_
  refine J_qstep (QG rfl rfl rfl rfl rfl opt_bool (fun hg => (by have hg0 := hg; simp only [BS, ne_eq] at hg0; exact Q_not (At.opt rfl (by first | exact hg | (simp only [BS, ne_eq] at hg ⊢; first | exact hg | simp_all)))))) rfl rfl ?_
  refine JQ (Q_orB (.tmp rfl) (fun hb => At.opt rfl (by simp only [BS, ne_eq] at hb ⊢; first | exact hb | simp_all))) rfl ?_
  refine JM rfl rfl ?_
  refine J_qstep (QG rfl rfl rfl rfl rfl opt_bool (fun hg => Q_move (.tmp rfl))) rfl rfl ?_
  refine J_qstep (QG rfl rfl rfl rfl rfl opt_bool (fun hg => (by have hg0 := hg; simp only [BS, ne_eq] at hg0; exact Q_not (At.opt rfl (by first | exact hg | (simp only [BS, ne_eq] at hg ⊢; first | exact hg | simp_all)))))) rfl rfl ?_
  refine JQ (Q_orB (.tmp rfl) (fun hb => At.opt rfl (by simp only [BS, ne_eq] at hb ⊢; first | exact hb | simp_all))) rfl ?_
  refine JM rfl rfl ?_
  refine J_qstep (QG rfl rfl rfl rfl rfl opt_bool (fun hg => Q_move (.tmp rfl))) rfl rfl ?_
  refine J_qstep (QG rfl rfl rfl rfl rfl opt_bool (fun hg => Q_move (.tmp rfl))) rfl rfl ?_
  refine J_qstep (QG rfl rfl rfl rfl rfl opt_bool (fun hg => (by have hg0 := hg; simp only [BS, ne_eq] at hg0; exact Q_len Tryz.underlying23 rfl (At.opt rfl (by first | exact hg | (simp only [BS, ne_eq] at hg ⊢; first | exact hg | simp_all)))))) rfl rfl ?_
  refine J_qstep (QG rfl rfl rfl rfl rfl opt_bool (fun hg => (by have hg0 := hg; simp only [BS, ne_eq] at hg0; exact Q_geq (At.opt rfl (by first | exact hg | (simp only [BS, ne_eq] at hg ⊢; first | exact hg | simp_all))) (At.opt rfl (by first | exact hg | (simp only [BS, ne_eq] at hg ⊢; first | exact hg | simp_all)))))) rfl rfl ?_
  refine JQ (Q_orB (.tmp rfl) (fun hb => At.opt rfl (by simp only [BS, ne_eq] at hb ⊢; first | exact hb | simp_all))) rfl ?_
  refine JM rfl rfl ?_
  refine J_qstep (QG rfl rfl rfl rfl rfl opt_bool (fun hg => Q_move (.tmp rfl))) rfl rfl ?_
  refine J_qstep (QG rfl rfl rfl rfl rfl opt_bool (fun hg => Q_move (.tmp rfl))) rfl rfl ?_
  refine J_qstep (QG rfl rfl rfl rfl rfl opt_bool (fun hg => (by have hg0 := hg; simp only [BS, ne_eq] at hg0; exact Q_idxAddrZ Tryz.underlying23 T5.size (At.opt rfl (by first | exact hg | (simp only [BS, ne_eq] at hg ⊢; first | exact hg | simp_all))) (At.opt rfl (by first | exact hg | (simp only [BS, ne_eq] at hg ⊢; first | exact hg | simp_all))) (by first | omega | simp <;> omega) (by first | omega | simp <;> omega)))) rfl rfl ?_
  refine J_qstep (QG rfl rfl rfl rfl rfl opt_bool (fun hg => (by have hg0 := hg; simp only [BS, ne_eq] at hg0; exact Q_load (At.opt rfl (by first | exact hg | (simp only [BS, ne_eq] at hg ⊢; first | exact hg | simp_all))) T5))) rfl rfl ?_
  refine J_qstep (QG rfl rfl rfl rfl rfl opt_bool (fun hg => (by have hg0 := hg; simp only [BS, ne_eq] at hg0; exact Q_neq8 (At.opt rfl (by first | exact hg | (simp only [BS, ne_eq] at hg ⊢; first | exact hg | simp_all))) (At.k8 (z := 10) (by decide))))) rfl rfl ?_
  refine JQ (Q_orB (.tmp rfl) (fun hb => At.opt rfl (by simp only [BS, ne_eq] at hb ⊢; first | exact hb | simp_all))) rfl ?_
  refine JN ?_
  refine J_cond (.tmp rfl) (fun h1 => ?_) (fun h1 => ?_)
  · try simp only [BS, ne_eq] at h1
    refine JSR ?_
    refine JQ (Q_build Z156 T156.agg (by kernel_rfl) BP.nil) rfl ?_
    refine J_store (.tmp rfl) (.tmp rfl) (by (try dsimp only) <;> rfl) (by repeat first | exact R1 | apply RT) Lens.id T156.size ?_
    refine JQ (Q_assign At.int) rfl ?_
    refine JN ?_
    refine J_retc ?_
    refine J_then_ret ?_
    exact J_ret2 rfl (ResAt.box rfl (by repeat first | exact R0 | apply RT) T156) (ResAt.tmp rfl) () trivial Split.nil (fun w T v hv => ⟨(_, _), trivial, hv⟩)
  try simp only [BS, ne_eq] at h1
  refine J_skip ?_
  refine J_then_normal ?_
  refine JSR ?_
  refine JM rfl rfl ?_
  refine JQ (Q_call (rParse_c _ (by first | omega | simp <;> omega)) ⟨(.tmp rfl), trivial⟩) rfl ?_
  refine JM rfl rfl ?_
  refine JQ (Q_extract (.tmp rfl) rfl) rfl ?_
  refine JQ (Q_extract (.tmp rfl) rfl) rfl ?_
  refine J_alloc Z37 rfl (fun b14 => ?_)
  refine J_store (.tmp rfl) (.tmp rfl) (by (try dsimp only) <;> rfl) (by repeat first | exact R1 | apply RT) Lens.id T37.size ?_
  refine J_freezeB (sl := 14) (by repeat first | exact R0 | apply RT) rfl ?_
  refine JA rfl rfl ?_
  refine JNSR ?_
  refine JM rfl rfl ?_
  refine JQ (Q_call (rKindOf_c _) ⟨(.tmp rfl), trivial⟩) rfl ?_
  refine JM rfl rfl ?_
  refine JQ (Q_extract (.tmp rfl) rfl) rfl ?_
  refine JQ (Q_extract (.tmp rfl) rfl) rfl ?_
  refine JA rfl rfl ?_
  refine JA rfl rfl ?_
  refine JNSSR ?_
  refine JM rfl rfl ?_
  refine JQ (Q_neq (.tmp rfl) At.int) rfl ?_
  refine JM rfl rfl ?_
  refine J_qstep (QG rfl rfl rfl rfl rfl opt_bool (fun hg => Q_move (.tmp rfl))) rfl rfl ?_
  refine J_qstep (QG rfl rfl rfl rfl rfl opt_bool (fun hg => (by have hg0 := hg; simp only [BS, ne_eq] at hg0; exact Q_not (At.opt rfl (by first | exact hg | (simp only [BS, ne_eq] at hg ⊢; first | exact hg | simp_all)))))) rfl rfl ?_
  refine JQ (Q_orB (.tmp rfl) (fun hb => At.opt rfl (by simp only [BS, ne_eq] at hb ⊢; first | exact hb | simp_all))) rfl ?_
  refine JN ?_
  refine J_cond (.tmp rfl) (fun h2 => ?_) (fun h2 => ?_)
  · try simp only [BS, ne_eq] at h2
    refine JSR ?_
    refine JQ (Q_build Z156 T156.agg (by kernel_rfl) BP.nil) rfl ?_
    refine J_store (.tmp rfl) (.tmp rfl) (by (try dsimp only) <;> rfl) (by repeat first | exact R1 | apply RT) Lens.id T156.size ?_
    refine JQ (Q_assign At.int) rfl ?_
    refine JN ?_
    refine J_retc ?_
    refine J_then_ret ?_
    exact J_ret2 rfl (ResAt.box rfl (by repeat first | exact R0 | apply RT) T156) (ResAt.tmp rfl) () trivial Split.nil (fun w T v hv => ⟨(_, _), trivial, hv⟩)
  try simp only [BS, ne_eq] at h2
  refine J_skip ?_
  refine J_then_normal ?_
  refine J_seq ?_
  refine J_draw mix 10 [96, 97, 98, 99, 100, 101, 102, 103, 104, 105] [_, _, _, _, _, _, _, _, _, _] rfl rfl (by kernel_rfl) (by kernel_rfl) (by kernel_rfl) (by kernel_rfl) (by kernel_rfl) ⟨QS (Q_load (.tmp rfl) T37) rfl, QS (Q_move (.tmp rfl)) rfl, QS (Q_move (.tmp rfl)) rfl, QS (Q_move (.tmp rfl)) rfl, QS (Q_move (.tmp rfl)) rfl, QS (Q_move (.tmp rfl)) rfl, QS (Q_addi (.tmp rfl) At.int (by first | omega | simp <;> omega) (by first | omega | simp <;> omega)) rfl, QS (Q_slice Tryz.underlying23 T5.size (.tmp rfl) ⟨_, (.tmp rfl)⟩ rfl (by first | omega | simp <;> omega) (by first | omega | simp <;> omega) (by first | omega | simp <;> omega)) rfl, QS (Q_toStr Tryz.underlying23 Tryz.underlying5 Tryz.underlying9 (.tmp rfl)) rfl, QS (Q_build Z156 T156.agg (by kernel_rfl) (BP.cons PL156_0 (Lens.fst Lens.id) (.tmp rfl) (BP.cons PL156_1 (Lens.snd (Lens.fst Lens.id) (by first | rfl | (simp only [Enc.size, Nat.zero_add, Nat.mul_one, Nat.add_zero]; omega))) (.tmp rfl) (BP.cons PL156_2 (Lens.snd (Lens.snd (Lens.fst Lens.id) (by first | rfl | (simp only [Enc.size, Nat.zero_add, Nat.mul_one, Nat.add_zero]; omega))) (by first | rfl | (simp only [Enc.size, Nat.zero_add, Nat.mul_one, Nat.add_zero]; omega))) (At.toStr (.tmp rfl)) (BP.cons PL156_3 (Lens.snd (Lens.snd (Lens.snd (Lens.fst Lens.id) (by first | rfl | (simp only [Enc.size, Nat.zero_add, Nat.mul_one, Nat.add_zero]; omega))) (by first | rfl | (simp only [Enc.size, Nat.zero_add, Nat.mul_one, Nat.add_zero]; omega))) (by first | rfl | (simp only [Enc.size, Nat.zero_add, Nat.mul_one, Nat.add_zero]; omega))) (At.toStr (.tmp rfl)) (BP.cons PL156_4 (Lens.snd (Lens.snd (Lens.snd (Lens.snd Lens.id (by first | rfl | (simp only [Enc.size, Nat.zero_add, Nat.mul_one, Nat.add_zero]; omega))) (by first | rfl | (simp only [Enc.size, Nat.zero_add, Nat.mul_one, Nat.add_zero]; omega))) (by first | rfl | (simp only [Enc.size, Nat.zero_add, Nat.mul_one, Nat.add_zero]; omega))) (by first | rfl | (simp only [Enc.size, Nat.zero_add, Nat.mul_one, Nat.add_zero]; omega))) (At.toStr (.tmp rfl)) BP.nil)))))) rfl, trivial⟩ ?_
  refine J_store (.tmp rfl) (.tmp rfl) (by (try dsimp only) <;> rfl) (by repeat first | exact R1 | apply RT) Lens.id T156.size ?_
  refine JNSR ?_
  refine JQ (Q_loadB (.tmp rfl) (by repeat first | exact R0 | apply RT) Lens.id T156 (by (try dsimp only) <;> rfl)) rfl ?_
  refine JQ (Q_call (rEncTag_c _ (Nat.le_trans l3.2.1 (by first | omega | simp <;> omega)) (Nat.le_trans l4.2.1 (by first | omega | simp <;> omega)) (show List.length (List.drop _ _) ≤ _ by simp; omega)) ⟨(.tmp rfl), trivial⟩) rfl ?_
  refine JM rfl rfl ?_
  refine JQ (Q_extract (.tmp rfl) rfl) rfl ?_
  refine JQ (Q_extract (.tmp rfl) rfl) rfl ?_
  refine JA rfl rfl ?_
  refine JA rfl rfl ?_
  refine JNSSR ?_
  refine JM rfl rfl ?_
  refine JQ (Q_neq (.tmp rfl) At.int) rfl ?_
  refine JM rfl rfl ?_
  refine J_qstep (QG rfl rfl rfl rfl rfl opt_bool (fun hg => Q_move (.tmp rfl))) rfl rfl ?_
  refine J_qstep (QG rfl rfl rfl rfl rfl opt_bool (fun hg => (by have hg0 := hg; simp only [BS, ne_eq] at hg0; exact Q_toStr Tryz.underlying23 Tryz.underlying5 Tryz.underlying9 (At.opt rfl (by first | exact hg | (simp only [BS, ne_eq] at hg ⊢; first | exact hg | simp_all)))))) rfl rfl ?_
  refine J_qstep (QG rfl rfl rfl rfl rfl opt_bool (fun hg => Q_move (.tmp rfl))) rfl rfl ?_
  refine J_qstep (QG rfl rfl rfl rfl rfl opt_bool (fun hg => (by have hg0 := hg; simp only [BS, ne_eq] at hg0; exact Q_toStr Tryz.underlying23 Tryz.underlying5 Tryz.underlying9 (At.opt rfl (by first | exact hg | (simp only [BS, ne_eq] at hg ⊢; first | exact hg | simp_all)))))) rfl rfl ?_
  refine J_qstep (QG rfl rfl rfl rfl rfl opt_bool (fun hg => (by have hg0 := hg; simp only [BS, ne_eq] at hg0; exact Q_neqs (At.opt rfl (by first | exact hg | (simp only [BS, ne_eq] at hg ⊢; first | exact hg | simp_all))) (At.opt rfl (by first | exact hg | (simp only [BS, ne_eq] at hg ⊢; first | exact hg | simp_all)))))) rfl rfl ?_
  refine JQ (Q_orB (.tmp rfl) (fun hb => At.opt rfl (by simp only [BS, ne_eq] at hb ⊢; first | exact hb | simp_all))) rfl ?_
  refine JN ?_
  refine J_cond (.tmp rfl) (fun h3 => ?_) (fun h3 => ?_)
  · try simp only [BS, ne_eq] at h3
    refine JSR ?_
    refine JQ (Q_build Z156 T156.agg (by kernel_rfl) BP.nil) rfl ?_
    refine J_store (.tmp rfl) (.tmp rfl) (by (try dsimp only) <;> rfl) (by repeat first | exact R1 | apply RT) Lens.id T156.size ?_
    refine JQ (Q_assign At.int) rfl ?_
    refine JN ?_
    refine J_retc ?_
    refine J_then_ret ?_
    exact J_ret2 rfl (ResAt.box rfl (by repeat first | exact R0 | apply RT) T156) (ResAt.tmp rfl) () trivial Split.nil (fun w T v hv => ⟨(_, _), trivial, hv⟩)
  try simp only [BS, ne_eq] at h3
  refine J_skip ?_
  refine J_then_normal ?_
  refine JSR ?_
  refine JQ (Q_loadB (.tmp rfl) (by repeat first | exact R0 | apply RT) Lens.id T156 (by (try dsimp only) <;> rfl)) rfl ?_
  refine J_store (.tmp rfl) (.tmp rfl) (by (try dsimp only) <;> rfl) (by repeat first | exact R1 | apply RT) Lens.id T156.size ?_
  refine JQ (Q_assign At.int) rfl ?_
  refine JN ?_
  refine J_retc ?_
  exact J_ret2 rfl (ResAt.box rfl (by repeat first | exact R0 | apply RT) T156) (ResAt.tmp rfl) () trivial Split.nil (fun w T v hv => ⟨(_, _), trivial, hv⟩)
theorem rEntry_v (b : Bytes) (a : Nat) (hbl : b.length ≤ 1048576) (ha : a ≤ b.length) : FnP Tryz.prog 115 [Sl b, VInt .i64 (a : Nat)] (VEx (fun q : Ent × Int => q.1.2.1.l.length ≤ b.length ∧ (q.2 < 0 ∨ ((a : Int) < q.2 ∧ q.2 ≤ b.length))) (fun q => VTup [V q.1, VInt .i64 q.2])) := by
  refine FnP_intro (by kernel_rfl) Tryz.func115 rfl Tryz.ntmps115 rfl (fun e => ?_)
  refine JSR ?_
  refine J_alloc Z81 rfl (fun b4 => ?_)
  refine JQ (Q_assign At.int) rfl ?_
  refine JNSR ?_
  refine J_alloc Z81 rfl (fun b6 => ?_)
  refine JNSR ?_
  refine JM rfl rfl ?_
  refine JA rfl rfl ?_
  refine JN ?_
  refine J_seq ?_
  refine J_block ?_
  refine J_loopU (ι := Nat) (fun i => a ≤ i ∧ i ≤ b.length) (fun i => [(7, VInt .i64 (i : Nat))]) [(0, _), (1, _), (4, _), (5, _), (6, _)] (fun i => [BoxR 81 b6 (GoZero.z : Ent), BoxR 81 b4 (GoZero.z : Ent)]) (fun i => b.length - i) (a) ⟨by omega, by omega⟩ ⟨fe rfl (by first | rfl | exact vint_eq (by first | omega | simp <;> omega) | exact vsl_eq (by simp) | exact vstr_eq (by simp)), trivial⟩ ⟨rfl, rfl, rfl, rfl, rfl, trivial⟩ (Has.take (Repl.box (by repeat first | exact R0 | apply RT) (by first | rfl | simp)) (Has.take (Repl.box (by repeat first | exact R0 | apply RT) (by first | rfl | simp)) Has.nil)) (fun i hq => ?_)
  obtain ⟨hai, hi⟩ := hq
  refine J_seq ?_
  refine JSR ?_
  refine JM rfl rfl ?_
  refine JM rfl rfl ?_
  refine JQ (Q_len Tryz.underlying23 rfl (.tmp rfl)) rfl ?_
  refine JQ (Q_lss (.tmp rfl) (.tmp rfl)) rfl ?_
  refine JM rfl rfl ?_
  refine J_qstep (QG rfl rfl rfl rfl rfl opt_bool (fun hg => Q_move (.tmp rfl))) rfl rfl ?_
  refine J_qstep (QG rfl rfl rfl rfl rfl opt_bool (fun hg => Q_move (.tmp rfl))) rfl rfl ?_
  refine J_qstep (QG rfl rfl rfl rfl rfl opt_bool (fun hg => (by have hg0 := hg; simp only [BS, ne_eq] at hg0; exact Q_idxAddrZ Tryz.underlying23 T5.size (At.opt rfl (by first | exact hg | (simp only [BS, ne_eq] at hg ⊢; first | exact hg | simp_all))) (At.opt rfl (by first | exact hg | (simp only [BS, ne_eq] at hg ⊢; first | exact hg | simp_all))) (by first | omega | simp <;> omega) (by first | omega | simp <;> omega)))) rfl rfl ?_
  refine J_qstep (QG rfl rfl rfl rfl rfl opt_bool (fun hg => (by have hg0 := hg; simp only [BS, ne_eq] at hg0; exact Q_load (At.opt rfl (by first | exact hg | (simp only [BS, ne_eq] at hg ⊢; first | exact hg | simp_all))) T5))) rfl rfl ?_
  refine J_qstep (QG rfl rfl rfl rfl rfl opt_bool (fun hg => (by have hg0 := hg; simp only [BS, ne_eq] at hg0; exact Q_neq8 (At.opt rfl (by first | exact hg | (simp only [BS, ne_eq] at hg ⊢; first | exact hg | simp_all))) (At.k8 (z := 32) (by decide))))) rfl rfl ?_
  refine JQ (Q_andB (.tmp rfl) (fun hb => At.opt rfl (by simp only [BS, ne_eq] at hb ⊢; first | exact hb | simp_all))) rfl ?_
  refine JM rfl rfl ?_
  refine J_qstep (QG rfl rfl rfl rfl rfl opt_bool (fun hg => Q_move (.tmp rfl))) rfl rfl ?_
  refine J_qstep (QG rfl rfl rfl rfl rfl opt_bool (fun hg => Q_move (.tmp rfl))) rfl rfl ?_
  refine J_qstep (QG rfl rfl rfl rfl rfl opt_bool (fun hg => (by have hg0 := hg; simp only [BS, ne_eq] at hg0; exact Q_subi (At.opt rfl (by first | exact hg | (simp only [BS, ne_eq] at hg ⊢; first | exact hg | simp_all))) (At.opt rfl (by first | exact hg | (simp only [BS, ne_eq] at hg ⊢; first | exact hg | simp_all))) (by first | omega | simp <;> omega) (by first | omega | simp <;> omega)))) rfl rfl ?_
  refine J_qstep (QG rfl rfl rfl rfl rfl opt_bool (fun hg => (by have hg0 := hg; simp only [BS, ne_eq] at hg0; exact Q_lss (At.opt rfl (by first | exact hg | (simp only [BS, ne_eq] at hg ⊢; first | exact hg | simp_all))) At.int))) rfl rfl ?_
  refine JQ (Q_andB (.tmp rfl) (fun hb => At.opt rfl (by simp only [BS, ne_eq] at hb ⊢; first | exact hb | simp_all))) rfl ?_
  refine JN ?_
  refine J_cond (.tmp rfl) (fun h0 => ?_) (fun h0 => ?_)
  · try simp only [BS, ne_eq] at h0
    refine J_skip ?_
    refine J_then_normal ?_
    refine J_block ?_
    refine J_region ?_
    refine JM rfl rfl ?_
    refine JQ (Q_addi (.tmp rfl) At.int (by first | omega | simp <;> omega) (by first | omega | simp <;> omega)) rfl ?_
    refine JA rfl rfl ?_
    refine J_nil ?_
    refine J_blk_normal ?_
    refine J_then_normal ?_
    refine J_back (i + 1) ?_ ?_ ?_ ?_
    · exact ⟨⟨by omega, by omega⟩, by omega⟩
    · exact ⟨fe rfl (by first | rfl | exact vint_eq (by first | omega | simp <;> omega) | exact vsl_eq (by simp) | exact vstr_eq (by simp)), trivial⟩
    · exact ⟨rfl, rfl, rfl, rfl, rfl, trivial⟩
    · exact (Has.take (Repl.box (by repeat first | exact R0 | apply RT) (by first | rfl | simp)) (Has.take (Repl.box (by repeat first | exact R0 | apply RT) (by first | rfl | simp)) Has.nil))
  try simp only [BS, ne_eq] at h0
  refine J_exit ?_
  refine J_then_exit ?_
  refine J_then_exit ?_
  refine J_blk_out ?_
  refine J_then_normal ?_
  refine J_seq ?_
  refine JSR ?_
  refine JM rfl rfl ?_
  refine JM rfl rfl ?_
  refine JQ (Q_len Tryz.underlying23 rfl (.tmp rfl)) rfl ?_
  refine JQ (Q_geq (.tmp rfl) (.tmp rfl)) rfl ?_
  refine JM rfl rfl ?_
  refine J_qstep (QG rfl rfl rfl rfl rfl opt_bool (fun hg => Q_move (.tmp rfl))) rfl rfl ?_
  refine J_qstep (QG rfl rfl rfl rfl rfl opt_bool (fun hg => Q_move (.tmp rfl))) rfl rfl ?_
  refine J_qstep (QG rfl rfl rfl rfl rfl opt_bool (fun hg => (by have hg0 := hg; simp only [BS, ne_eq] at hg0; exact Q_idxAddrZ Tryz.underlying23 T5.size (At.opt rfl (by first | exact hg | (simp only [BS, ne_eq] at hg ⊢; first | exact hg | simp_all))) (At.opt rfl (by first | exact hg | (simp only [BS, ne_eq] at hg ⊢; first | exact hg | simp_all))) (by first | omega | simp <;> omega) (by first | omega | simp <;> omega)))) rfl rfl ?_
  refine J_qstep (QG rfl rfl rfl rfl rfl opt_bool (fun hg => (by have hg0 := hg; simp only [BS, ne_eq] at hg0; exact Q_load (At.opt rfl (by first | exact hg | (simp only [BS, ne_eq] at hg ⊢; first | exact hg | simp_all))) T5))) rfl rfl ?_
  refine J_qstep (QG rfl rfl rfl rfl rfl opt_bool (fun hg => (by have hg0 := hg; simp only [BS, ne_eq] at hg0; exact Q_neq8 (At.opt rfl (by first | exact hg | (simp only [BS, ne_eq] at hg ⊢; first | exact hg | simp_all))) (At.k8 (z := 32) (by decide))))) rfl rfl ?_
  refine JQ (Q_orB (.tmp rfl) (fun hb => At.opt rfl (by simp only [BS, ne_eq] at hb ⊢; first | exact hb | simp_all))) rfl ?_
  refine JN ?_
  refine J_cond (.tmp rfl) (fun h1 => ?_) (fun h1 => ?_)
  · try simp only [BS, ne_eq] at h1
    refine JSR ?_
    refine JQ (Q_loadB (.tmp rfl) (by repeat first | exact R0 | apply RT) Lens.id T81 (by (try dsimp only) <;> rfl)) rfl ?_
    refine J_store (.tmp rfl) (.tmp rfl) (by (try dsimp only) <;> rfl) (by repeat first | exact R1 | apply RT) Lens.id T81.size ?_
    refine JQ (Q_assign At.int) rfl ?_
    refine JN ?_
    refine J_retc ?_
    refine J_then_ret ?_
    exact J_ret2 rfl (ResAt.box rfl (by repeat first | exact R0 | apply RT) T81) (ResAt.tmp rfl) () trivial Split.nil (fun w T v hv => ⟨(_, _), ⟨Nat.zero_le _, .inl (show (-1 : Int) < 0 by decide)⟩, hv⟩)
  try simp only [BS, ne_eq] at h1
  refine J_skip ?_
  refine J_then_normal ?_
  refine JSR ?_
  refine JQ (Q_buildSlice (α := Int) E3 Tryz.underlying211 [.const (.int .i64 16384), .const (.int .i64 33188), .const (.int .i64 33261), .const (.int .i64 40960), .const (.int .i64 57344)] [_, _, _, _, _] rfl rfl ⟨At.int, At.int, At.int, At.int, At.int, trivial⟩ (Nat.le_of_ble_eq_true rfl)) rfl ?_
  refine JA rfl rfl ?_
  refine JNSSR ?_
  refine JQ (Q_assign At.int) rfl ?_
  refine JN ?_
  refine J_block ?_
  refine J_loopU (ι := Nat × Ent) (fun q => match q with | (m, en) => m ≤ 5 ∧ en.2.1.l.length ≤ b.length) (fun q => match q with | (m, en) => [(9, VInt .i64 (m : Nat))]) [(0, _), (1, _), (4, _), (5, _), (6, _), (7, _), (8, _)] (fun q => match q with | (m, en) => [BoxR 81 b6 en, BoxR 81 b4 (GoZero.z : Ent)]) (fun q => match q with | (m, en) => 5 - m) ((0, GoZero.z)) ⟨by omega, Nat.zero_le _⟩ ⟨fe rfl (by first | rfl | exact vint_eq (by first | omega | simp <;> omega) | exact vsl_eq (by simp) | exact vstr_eq (by simp)), trivial⟩ ⟨rfl, rfl, rfl, rfl, rfl, rfl, rfl, trivial⟩ (Has.take (Repl.box (by repeat first | exact R0 | apply RT) (by first | rfl | simp)) (Has.take (Repl.box (by repeat first | exact R0 | apply RT) (by first | rfl | simp)) Has.nil)) (fun q hq_1 => ?_)
  obtain ⟨m, en⟩ := q
  try dsimp only at hq_1
  obtain ⟨hm, hen⟩ := hq_1
  refine J_seq ?_
  refine JSR ?_
  refine JM rfl rfl ?_
  refine JQ (Q_lss (.tmp rfl) At.int) rfl ?_
  refine JN ?_
  refine J_cond (.tmp rfl) (fun h2 => ?_) (fun h2 => ?_)
  · try simp only [BS, ne_eq] at h2
    refine J_skip ?_
    refine J_then_normal ?_
    refine J_seq ?_
    refine J_block ?_
    refine J_seq ?_
    refine J_draw mix 11 [49, 50, 51, 52, 53, 54, 55, 56, 57, 58, 59] [_, _, _, _, _, _, _, _, _, _, _] rfl rfl (by kernel_rfl) (by kernel_rfl) (by kernel_rfl) (by kernel_rfl) (by kernel_rfl) ⟨QS (Q_move (.tmp rfl)) rfl, QS (Q_move (.tmp rfl)) rfl, QS ((by first | exact Q_idxAddrN Tryz.underlying211 T3.size (.tmp rfl) (.tmp rfl) (by first | omega | simp <;> omega) | exact Q_idxAddr Tryz.underlying211 T3.size (.tmp rfl) (.tmp rfl) (by first | omega | simp <;> omega) (by first | omega | simp <;> omega))) rfl, QS (Q_load (.tmp rfl) T3) rfl, QS (Q_call (rMode_c _) ⟨(.tmp rfl), trivial⟩) rfl, QS (Q_move (.tmp rfl)) rfl, QS (Q_move (.tmp rfl)) rfl, QS (Q_move (.tmp rfl)) rfl, QS (Q_slice Tryz.underlying23 T5.size (.tmp rfl) ⟨_, (.tmp rfl)⟩ ⟨_, (.tmp rfl)⟩ (by first | omega | simp <;> omega) (by first | omega | simp <;> omega) (by first | omega | simp <;> omega)) rfl, QS (Q_toStr Tryz.underlying23 Tryz.underlying5 Tryz.underlying9 (.tmp rfl)) rfl, QS (Q_eqls (.tmp rfl) (.tmp rfl)) rfl, trivial⟩ ?_
    refine JN ?_
    refine J_cond (.tmp rfl) (fun h3 => ?_) (fun h3 => ?_)
    · try simp only [BS, ne_eq] at h3
      refine J_region ?_
      refine JM rfl rfl ?_
      refine JM rfl rfl ?_
      refine JQ (by first | exact Q_idxAddrN Tryz.underlying211 T3.size (.tmp rfl) (.tmp rfl) (by first | omega | simp <;> omega) | exact Q_idxAddr Tryz.underlying211 T3.size (.tmp rfl) (.tmp rfl) (by first | omega | simp <;> omega) (by first | omega | simp <;> omega)) rfl ?_
      refine JQ (Q_load (.tmp rfl) T3) rfl ?_
      refine JQ (Q_fieldAddrP F81_0 (by decide) (.tmp rfl)) rfl ?_
      refine J_store (.tmp rfl) (.tmp rfl) (by (try dsimp only) <;> rfl) (by repeat first | exact R1 | apply RT) (Lens.fst Lens.id) T3.size ?_
      refine J_nil ?_
      refine J_blk_normal ?_
      refine J_then_normal ?_
      refine J_region ?_
      refine JM rfl rfl ?_
      refine JQ (Q_addi (.tmp rfl) At.int (by first | omega | simp <;> omega) (by first | omega | simp <;> omega)) rfl ?_
      refine JA rfl rfl ?_
      refine JN ?_
      refine J_genBP (tb := 81) (b := b6) (fun q : Ent => q.2.1.l.length ≤ b.length) (by repeat first | exact R0 | apply RT) (by exact hen) (fun en2 hen2 => ?_)
      refine J_back ((m + 1, en2)) ?_ ?_ ?_ ?_
      · exact ⟨⟨by omega, hen2⟩, by simp only; omega⟩
      · exact ⟨fe rfl (by first | rfl | exact vint_eq (by first | omega | simp <;> omega) | exact vsl_eq (by simp) | exact vstr_eq (by simp)), trivial⟩
      · exact ⟨rfl, rfl, rfl, rfl, rfl, rfl, rfl, trivial⟩
      · exact (Has.take (Repl.box (by repeat first | exact R0 | apply RT) (by first | rfl | simp)) (Has.take (Repl.box (by repeat first | exact R0 | apply RT) (by first | rfl | simp)) Has.nil))
    try simp only [BS, ne_eq] at h3
    refine J_skip ?_
    refine J_blk_normal ?_
    refine J_then_normal ?_
    refine J_region ?_
    refine JM rfl rfl ?_
    refine JQ (Q_addi (.tmp rfl) At.int (by first | omega | simp <;> omega) (by first | omega | simp <;> omega)) rfl ?_
    refine JA rfl rfl ?_
    refine JN ?_
    refine J_back ((m + 1, en)) ?_ ?_ ?_ ?_
    · exact ⟨⟨by omega, hen⟩, by simp only; omega⟩
    · exact ⟨fe rfl (by first | rfl | exact vint_eq (by first | omega | simp <;> omega) | exact vsl_eq (by simp) | exact vstr_eq (by simp)), trivial⟩
    · exact ⟨rfl, rfl, rfl, rfl, rfl, rfl, rfl, trivial⟩
    · exact (Has.take (Repl.box (by repeat first | exact R0 | apply RT) (by first | rfl | simp)) (Has.take (Repl.box (by repeat first | exact R0 | apply RT) (by first | rfl | simp)) Has.nil))
  try simp only [BS, ne_eq] at h2
  refine J_exit ?_
  refine J_then_exit ?_
  refine J_then_exit ?_
  refine J_blk_out ?_
  refine J_then_normal ?_
  refine JSR ?_
  refine JM rfl rfl ?_
  refine JQ (Q_addi (.tmp rfl) At.int (by first | omega | simp <;> omega) (by first | omega | simp <;> omega)) rfl ?_
  refine JA rfl rfl ?_
  refine JN ?_
  refine J_seq ?_
  refine J_block ?_
  refine J_loopU (ι := Nat) (fun k => i + 1 ≤ k ∧ k ≤ b.length) (fun k => [(10, VInt .i64 (k : Nat))]) [(0, _), (4, _), (5, _), (6, _), (7, _)] (fun k => [BoxR 81 b6 en, BoxR 81 b4 (GoZero.z : Ent)]) (fun k => b.length - k) (i + 1) ⟨by omega, by omega⟩ ⟨fe rfl (by first | rfl | exact vint_eq (by first | omega | simp <;> omega) | exact vsl_eq (by simp) | exact vstr_eq (by simp)), trivial⟩ ⟨rfl, rfl, rfl, rfl, rfl, trivial⟩ (Has.take (Repl.box (by repeat first | exact R0 | apply RT) (by first | rfl | simp)) (Has.take (Repl.box (by repeat first | exact R0 | apply RT) (by first | rfl | simp)) Has.nil)) (fun k hq_2 => ?_)
  obtain ⟨hik, hk⟩ := hq_2
  refine J_seq ?_
  refine JSR ?_
  refine JM rfl rfl ?_
  refine JM rfl rfl ?_
  refine JQ (Q_len Tryz.underlying23 rfl (.tmp rfl)) rfl ?_
  refine JQ (Q_lss (.tmp rfl) (.tmp rfl)) rfl ?_
  refine JM rfl rfl ?_
  refine J_qstep (QG rfl rfl rfl rfl rfl opt_bool (fun hg => Q_move (.tmp rfl))) rfl rfl ?_
  refine J_qstep (QG rfl rfl rfl rfl rfl opt_bool (fun hg => Q_move (.tmp rfl))) rfl rfl ?_
  refine J_qstep (QG rfl rfl rfl rfl rfl opt_bool (fun hg => (by have hg0 := hg; simp only [BS, ne_eq] at hg0; exact Q_idxAddrZ Tryz.underlying23 T5.size (At.opt rfl (by first | exact hg | (simp only [BS, ne_eq] at hg ⊢; first | exact hg | simp_all))) (At.opt rfl (by first | exact hg | (simp only [BS, ne_eq] at hg ⊢; first | exact hg | simp_all))) (by first | omega | simp <;> omega) (by first | omega | simp <;> omega)))) rfl rfl ?_
  refine J_qstep (QG rfl rfl rfl rfl rfl opt_bool (fun hg => (by have hg0 := hg; simp only [BS, ne_eq] at hg0; exact Q_load (At.opt rfl (by first | exact hg | (simp only [BS, ne_eq] at hg ⊢; first | exact hg | simp_all))) T5))) rfl rfl ?_
  refine J_qstep (QG rfl rfl rfl rfl rfl opt_bool (fun hg => (by have hg0 := hg; simp only [BS, ne_eq] at hg0; exact Q_neq8 (At.opt rfl (by first | exact hg | (simp only [BS, ne_eq] at hg ⊢; first | exact hg | simp_all))) (At.k8 (z := 0) (by decide))))) rfl rfl ?_
  refine JQ (Q_andB (.tmp rfl) (fun hb => At.opt rfl (by simp only [BS, ne_eq] at hb ⊢; first | exact hb | simp_all))) rfl ?_
  refine JN ?_
  refine J_cond (.tmp rfl) (fun h4 => ?_) (fun h4 => ?_)
  · try simp only [BS, ne_eq] at h4
    refine J_skip ?_
    refine J_then_normal ?_
    refine J_block ?_
    refine J_region ?_
    refine JM rfl rfl ?_
    refine JQ (Q_addi (.tmp rfl) At.int (by first | omega | simp <;> omega) (by first | omega | simp <;> omega)) rfl ?_
    refine JA rfl rfl ?_
    refine J_nil ?_
    refine J_blk_normal ?_
    refine J_then_normal ?_
    refine J_back (k + 1) ?_ ?_ ?_ ?_
    · exact ⟨⟨by omega, by omega⟩, by omega⟩
    · exact ⟨fe rfl (by first | rfl | exact vint_eq (by first | omega | simp <;> omega) | exact vsl_eq (by simp) | exact vstr_eq (by simp)), trivial⟩
    · exact ⟨rfl, rfl, rfl, rfl, rfl, trivial⟩
    · exact (Has.take (Repl.box (by repeat first | exact R0 | apply RT) (by first | rfl | simp)) (Has.take (Repl.box (by repeat first | exact R0 | apply RT) (by first | rfl | simp)) Has.nil))
  try simp only [BS, ne_eq] at h4
  refine J_exit ?_
  refine J_then_exit ?_
  refine J_then_exit ?_
  refine J_blk_out ?_
  refine J_then_normal ?_
  refine J_seq ?_
  refine JSR ?_
  refine JQ (Q_fieldAddrP F81_0 (by decide) (.tmp rfl)) rfl ?_
  refine JQ (Q_loadB (.tmp rfl) (by repeat first | exact R0 | apply RT) (Lens.fst Lens.id) T3 (by (try dsimp only) <;> rfl)) rfl ?_
  refine JQ (Q_eql (.tmp rfl) At.int) rfl ?_
  refine JM rfl rfl ?_
  refine J_qstep (QG rfl rfl rfl rfl rfl opt_bool (fun hg => Q_move (.tmp rfl))) rfl rfl ?_
  refine J_qstep (QG rfl rfl rfl rfl rfl opt_bool (fun hg => (by have hg0 := hg; simp only [BS, ne_eq] at hg0; exact Q_len Tryz.underlying23 rfl (At.opt rfl (by first | exact hg | (simp only [BS, ne_eq] at hg ⊢; first | exact hg | simp_all)))))) rfl rfl ?_
  refine J_qstep (QG rfl rfl rfl rfl rfl opt_bool (fun hg => Q_move (.tmp rfl))) rfl rfl ?_
  refine J_qstep (QG rfl rfl rfl rfl rfl opt_bool (fun hg => (by have hg0 := hg; simp only [BS, ne_eq] at hg0; exact Q_subi (At.opt rfl (by first | exact hg | (simp only [BS, ne_eq] at hg ⊢; first | exact hg | simp_all))) (At.opt rfl (by first | exact hg | (simp only [BS, ne_eq] at hg ⊢; first | exact hg | simp_all))) (by first | omega | simp <;> omega) (by first | omega | simp <;> omega)))) rfl rfl ?_
  refine J_qstep (QG rfl rfl rfl rfl rfl opt_bool (fun hg => (by have hg0 := hg; simp only [BS, ne_eq] at hg0; exact Q_lss (At.opt rfl (by first | exact hg | (simp only [BS, ne_eq] at hg ⊢; first | exact hg | simp_all))) At.int))) rfl rfl ?_
  refine JQ (Q_orB (.tmp rfl) (fun hb => At.opt rfl (by simp only [BS, ne_eq] at hb ⊢; first | exact hb | simp_all))) rfl ?_
  refine JN ?_
  refine J_cond (.tmp rfl) (fun h5 => ?_) (fun h5 => ?_)
  · try simp only [BS, ne_eq] at h5
    refine JSR ?_
    refine JQ (Q_loadB (.tmp rfl) (by repeat first | exact R0 | apply RT) Lens.id T81 (by (try dsimp only) <;> rfl)) rfl ?_
    refine J_store (.tmp rfl) (.tmp rfl) (by (try dsimp only) <;> rfl) (by repeat first | exact R1 | apply RT) Lens.id T81.size ?_
    refine JQ (Q_assign At.int) rfl ?_
    refine JN ?_
    refine J_retc ?_
    refine J_then_ret ?_
    exact J_ret2 rfl (ResAt.box rfl (by repeat first | exact R0 | apply RT) T81) (ResAt.tmp rfl) () trivial Split.nil (fun w T v hv => ⟨(_, _), ⟨hen, .inl (show (-1 : Int) < 0 by decide)⟩, hv⟩)
  try simp only [BS, ne_eq] at h5
  refine J_skip ?_
  refine J_then_normal ?_
  refine JSR ?_
  refine JM rfl rfl ?_
  refine JM rfl rfl ?_
  refine JQ (Q_addi (.tmp rfl) At.int (by first | omega | simp <;> omega) (by first | omega | simp <;> omega)) rfl ?_
  refine JM rfl rfl ?_
  refine JQ (Q_slice Tryz.underlying23 T5.size (.tmp rfl) ⟨_, (.tmp rfl)⟩ ⟨_, (.tmp rfl)⟩ (by first | omega | simp <;> omega) (by first | omega | simp <;> omega) (by first | omega | simp <;> omega)) rfl ?_
  refine JQ (Q_toStr Tryz.underlying23 Tryz.underlying5 Tryz.underlying9 (.tmp rfl)) rfl ?_
  refine JQ (Q_fieldAddrP F81_1 (by decide) (.tmp rfl)) rfl ?_
  refine J_store (.tmp rfl) (At.toStr (.tmp rfl)) (by (try dsimp only) <;> rfl) (by repeat first | exact R1 | apply RT) (Lens.snd (Lens.fst Lens.id) (by first | rfl | (simp only [Enc.size, Nat.zero_add, Nat.mul_one, Nat.add_zero]; omega))) T9.size ?_
  refine JNSSR ?_
  refine JQ (Q_assign At.int) rfl ?_
  refine JN ?_
  refine J_block ?_
  refine J_genBP (tb := 81) (b := b6) (fun q : Ent => q.2.1.l.length ≤ b.length) (by repeat first | exact R0 | apply RT) (by show List.length (List.drop _ _) ≤ _; simp; omega) (fun en4 hen4 => ?_)
  refine J_loopU (ι := Nat × Ent) (fun q => match q with | (j, en3) => j ≤ 20 ∧ en3.2.1.l.length ≤ b.length) (fun q => match q with | (j, en3) => [(11, VInt .i64 (j : Nat))]) [(0, _), (4, _), (5, _), (6, _), (10, _)] (fun q => match q with | (j, en3) => [BoxR 81 b6 en3, BoxR 81 b4 (GoZero.z : Ent)]) (fun q => match q with | (j, en3) => 20 - j) ((0, en4)) ⟨by omega, hen4⟩ ⟨fe rfl (by first | rfl | exact vint_eq (by first | omega | simp <;> omega) | exact vsl_eq (by simp) | exact vstr_eq (by simp)), trivial⟩ ⟨rfl, rfl, rfl, rfl, rfl, trivial⟩ (Has.take (Repl.box (by repeat first | exact R0 | apply RT) (by first | rfl | simp)) (Has.take (Repl.box (by repeat first | exact R0 | apply RT) (by first | rfl | simp)) Has.nil)) (fun q_1 hq_3 => ?_)
  obtain ⟨j, en3⟩ := q_1
  try dsimp only at hq_3
  obtain ⟨hj, hen3⟩ := hq_3
  refine J_seq ?_
  refine JSR ?_
  refine JM rfl rfl ?_
  refine JQ (Q_lss (.tmp rfl) At.int) rfl ?_
  refine JN ?_
  refine J_cond (.tmp rfl) (fun h6 => ?_) (fun h6 => ?_)
  · try simp only [BS, ne_eq] at h6
    refine J_skip ?_
    refine J_then_normal ?_
    refine J_seq ?_
    refine J_block ?_
    refine J_region ?_
    refine JM rfl rfl ?_
    refine JM rfl rfl ?_
    refine JM rfl rfl ?_
    refine JQ (Quiet.imp (Q_addi (.tmp rfl) At.int (by first | omega | simp <;> omega) (by first | omega | simp <;> omega)) (imp_eq (vint_eq (show _ = ((k + 1 : Nat) : Int) by first | omega | (simp; omega))))) rfl ?_
    refine JM rfl rfl ?_
    refine JQ (Quiet.imp (Q_addi (.tmp rfl) (.tmp rfl) (by first | omega | simp <;> omega) (by first | omega | simp <;> omega)) (imp_eq (vint_eq (show _ = ((k + 1 + j : Nat) : Int) by first | omega | (simp; omega))))) rfl ?_
    refine JQ (by first | exact Q_idxAddrN Tryz.underlying23 T5.size (.tmp rfl) (.tmp rfl) (by first | omega | simp <;> omega) | exact Q_idxAddr Tryz.underlying23 T5.size (.tmp rfl) (.tmp rfl) (by first | omega | simp <;> omega) (by first | omega | simp <;> omega)) rfl ?_
    refine JQ (Q_load (.tmp rfl) T5) rfl ?_
    refine JQ (Q_fieldAddrP F81_2 (by decide) (.tmp rfl)) rfl ?_
    refine JQ (Q_idxAddrP Tryz.underlying37 T5.size (.tmp rfl) (.tmp rfl) (by first | omega | simp <;> omega) (by first | omega | simp <;> omega)) rfl ?_
    refine J_store (.tmp rfl) (.tmp rfl) (by (try dsimp only) <;> rfl) (by repeat first | exact R1 | apply RT) (Lens.sndO (off := 1 + j) (by simp [Enc.size]; omega) (Lens.sndO (off := j) (by rfl) (Lens.idxO j (by simp [Enc.size]) (by first | omega | simp <;> omega)))) T5.size ?_
    refine J_nil ?_
    refine J_blk_normal ?_
    refine J_then_normal ?_
    refine J_region ?_
    refine JM rfl rfl ?_
    refine JQ (Q_addi (.tmp rfl) At.int (by first | omega | simp <;> omega) (by first | omega | simp <;> omega)) rfl ?_
    refine JA rfl rfl ?_
    refine JN ?_
    refine J_genBP (tb := 81) (b := b6) (fun q : Ent => q.2.1.l.length ≤ b.length) (by repeat first | exact R0 | apply RT) (by exact hen3) (fun en5 hen5 => ?_)
    refine J_back ((j + 1, en5)) ?_ ?_ ?_ ?_
    · exact ⟨⟨by omega, hen5⟩, by simp only; omega⟩
    · exact ⟨fe rfl (by first | rfl | exact vint_eq (by first | omega | simp <;> omega) | exact vsl_eq (by simp) | exact vstr_eq (by simp)), trivial⟩
    · exact ⟨rfl, rfl, rfl, rfl, rfl, trivial⟩
    · exact (Has.take (Repl.box (by repeat first | exact R0 | apply RT) (by first | rfl | simp)) (Has.take (Repl.box (by repeat first | exact R0 | apply RT) (by first | rfl | simp)) Has.nil))
  try simp only [BS, ne_eq] at h6
  refine J_exit ?_
  refine J_then_exit ?_
  refine J_then_exit ?_
  refine J_blk_out ?_
  refine J_then_normal ?_
  refine J_seq ?_
  refine JSR ?_
  refine JQ (Q_fieldAddrP F81_1 (by decide) (.tmp rfl)) rfl ?_
  refine JQ (Q_strOf (Q_loadB (.tmp rfl) (by repeat first | exact R0 | apply RT) (Lens.snd (Lens.fst Lens.id) (by first | rfl | (simp only [Enc.size, Nat.zero_add, Nat.mul_one, Nat.add_zero]; omega))) T9 (by (try dsimp only) <;> rfl)) (by (try dsimp only) <;> rfl)) rfl ?_
  refine JQ (Q_call (rName_c _ (Nat.le_trans hen3 (by first | omega | simp <;> omega))) ⟨(.tmp rfl), trivial⟩) rfl ?_
  refine JQ (Q_not (.tmp rfl)) rfl ?_
  refine JN ?_
  refine J_cond (.tmp rfl) (fun h7 => ?_) (fun h7 => ?_)
  · try simp only [BS, ne_eq] at h7
    refine JSR ?_
    refine JQ (Q_loadB (.tmp rfl) (by repeat first | exact R0 | apply RT) Lens.id T81 (by (try dsimp only) <;> rfl)) rfl ?_
    refine J_store (.tmp rfl) (.tmp rfl) (by (try dsimp only) <;> rfl) (by repeat first | exact R1 | apply RT) Lens.id T81.size ?_
    refine JQ (Q_assign At.int) rfl ?_
    refine JN ?_
    refine J_retc ?_
    refine J_then_ret ?_
    exact J_ret2 rfl (ResAt.box rfl (by repeat first | exact R0 | apply RT) T81) (ResAt.tmp rfl) () trivial Split.nil (fun w T v hv => ⟨(_, _), ⟨hen3, .inl (show (-1 : Int) < 0 by decide)⟩, hv⟩)
  try simp only [BS, ne_eq] at h7
  refine J_skip ?_
  refine J_then_normal ?_
  refine JSR ?_
  refine JQ (Q_loadB (.tmp rfl) (by repeat first | exact R0 | apply RT) Lens.id T81 (by (try dsimp only) <;> rfl)) rfl ?_
  refine JM rfl rfl ?_
  refine JQ (Q_addi (.tmp rfl) At.int (by first | omega | simp <;> omega) (by first | omega | simp <;> omega)) rfl ?_
  refine J_store (.tmp rfl) (.tmp rfl) (by (try dsimp only) <;> rfl) (by repeat first | exact R1 | apply RT) Lens.id T81.size ?_
  refine JA rfl rfl ?_
  refine JN ?_
  refine J_retc ?_
  exact J_ret2 rfl (ResAt.box rfl (by repeat first | exact R0 | apply RT) T81) (ResAt.tmp rfl) () trivial Split.nil (fun w T v hv => ⟨(_, _), ⟨hen3, .inr ⟨by show (a : Int) < _; omega, by show _ ≤ ((b.length : Nat) : Int); omega⟩⟩, hv⟩)
end Go.Sep
namespace Go.Sep
open Go Go.Proofs
open Enc (V)
theorem Q_vex {P : Program} {n : Nat} {e : Env P} {G : Ctx} {S : List Res} {o : Oper} {α : Type} {q : α → Prop} {X Y : α → VP} {t : Nat} (hf : find G t = some (VEx q X)) (h : ∀ x, q x → Quiet P n e ((t, X x) :: G) S o (Y x)) : Quiet P n e G S o (VEx q Y) := by
  intro a w hh K Q hK
  obtain ⟨x, hq, hx⟩ := hh.slots t _ hf
  have hh' : Holds n e ((t, X x) :: G) S a w := ⟨hh.size, hh.defers, fun t' Z hZ => by
    rw [find_cons] at hZ
    by_cases ht : t = t'
    · subst ht; rw [if_pos rfl] at hZ; obtain rfl := Option.some.inj hZ; exact hx
    · rw [if_neg ht] at hZ; exact hh.slots t' Z hZ, hh.res, hh.nodup, hh.own, hh.ext, hh.glob⟩
  exact h x hq a w hh' K Q fun v w' hx hv => hK v w' hx ⟨x, hq, hv⟩
attribute [local irreducible] Quiet QStep J At FnX Fn FnP Repl Split Has Post Back GoZ
theorem rDecTree_v (b : Bytes) : FnP Tryz.prog 83 [Sl b] (VEx (fun _ : List Ent × Int => True) (fun q => VTup [Sl q.1, VInt .i64 q.2])) := by
  refine FnP_intro (by kernel_rfl) Tryz.func83 rfl Tryz.ntmps83 rfl (fun e => ?_)
  refine J_lenLe (t := 0) rfl (fun hl0 => ?_)
  refine JSR ?_
  refine JQ (Q_assign (At.nils (α := (Int × Str × (Arr 20 UInt8))))) rfl ?_
  refine JQ (Q_assign At.int) rfl ?_
  refine JNSSR ?_
  refine JM rfl rfl ?_
  refine JQ (Q_len Tryz.underlying23 rfl (.tmp rfl)) rfl ?_
  refine JQ (Q_gtr (.tmp rfl) At.int) rfl ?_
  refine JN ?_
  refine J_cond (.tmp rfl) (fun h0 => ?_) (fun h0 => ?_)
  · try simp only [BS, ne_eq] at h0
    refine JSR ?_
    refine JQ (Q_assign (At.nils (α := (Int × Str × (Arr 20 UInt8))))) rfl ?_
    refine JQ (Q_assign At.int) rfl ?_
    refine JN ?_
    refine J_retc ?_
    refine J_then_ret ?_
    exact J_ret2 rfl (ResAt.tmp rfl) (ResAt.tmp rfl) () trivial Split.nil (fun w T v hv => ⟨(_, _), trivial, hv⟩)
  try simp only [BS, ne_eq] at h0
  refine J_skip ?_
  refine J_then_normal ?_
  refine JSR ?_
  refine JQ (Q_assign At.const) rfl ?_
  refine JNSR ?_
  refine JQ (Q_assign At.int) rfl ?_
  refine JN ?_
  refine J_seq ?_
  refine J_block ?_
  refine J_rowNil (el := 81) Ent ?_
  refine J_loopU (ι := Nat × Value × List Ent) (fun q => match q with | (a, u, l) => a ≤ b.length ∧ l.length ≤ a ∧ ∀ e ∈ l, e.2.1.l.length ≤ b.length) (fun q => match q with | (a, u, l) => [(5, VInt .i64 (a : Nat)), (4, Is u)]) [(0, _)] (fun q => match q with | (a, u, l) => [RowR 81 u l]) (fun q => match q with | (a, u, l) => b.length - a) ((0, .slice none 0 0, [])) ⟨by omega, by simp, by simp⟩ ⟨fe rfl (by first | rfl | exact vint_eq (by first | omega | simp <;> omega) | exact vsl_eq (by simp) | exact vstr_eq (by simp)), fe rfl (by first | rfl | exact vint_eq (by first | omega | simp <;> omega) | exact vsl_eq (by simp) | exact vstr_eq (by simp)), trivial⟩ ⟨rfl, trivial⟩ (Has.take (Repl.row (by repeat first | exact R0 | apply RT) (by first | rfl | simp)) Has.nil) (fun q hq => ?_)
  obtain ⟨a, u, l⟩ := q
  try dsimp only at hq
  obtain ⟨ha, hla, hl⟩ := hq
  refine J_seq ?_
  refine JSR ?_
  refine JM rfl rfl ?_
  refine JM rfl rfl ?_
  refine JQ (Q_len Tryz.underlying23 rfl (.tmp rfl)) rfl ?_
  refine JQ (Q_lss (.tmp rfl) (.tmp rfl)) rfl ?_
  refine JN ?_
  refine J_cond (.tmp rfl) (fun h1 => ?_) (fun h1 => ?_)
  · try simp only [BS, ne_eq] at h1
    refine J_skip ?_
    refine J_then_normal ?_
    refine J_block ?_
    refine JSR ?_
    refine JM rfl rfl ?_
    refine JM rfl rfl ?_
    refine JQ (Q_call (rEntry_v b a (by first | omega | simp <;> omega) (by first | omega | simp <;> omega)) ⟨(.tmp rfl), (.tmp rfl), trivial⟩) rfl ?_
    refine J_open (t := 18) rfl (fun q hq => ?_)
    obtain ⟨hq1, hq2⟩ := hq
    refine JM rfl rfl ?_
    refine JQ (Q_extract (.tmp rfl) rfl) rfl ?_
    refine JQ (Q_extract (.tmp rfl) rfl) rfl ?_
    refine J_alloc Z81 rfl (fun b6 => ?_)
    refine J_store (.tmp rfl) (.tmp rfl) (by (try dsimp only) <;> rfl) (by repeat first | exact R1 | apply RT) Lens.id T81.size ?_
    refine J_freezeB (sl := 6) (by repeat first | exact R0 | apply RT) rfl ?_
    refine JA rfl rfl ?_
    refine JNSSR ?_
    refine JM rfl rfl ?_
    refine JQ (Q_lss (.tmp rfl) At.int) rfl ?_
    refine JN ?_
    refine J_cond (.tmp rfl) (fun h2 => ?_) (fun h2 => ?_)
    · try simp only [BS, ne_eq] at h2
      refine JSR ?_
      refine JQ (Q_assign (At.nils (α := (Int × Str × (Arr 20 UInt8))))) rfl ?_
      refine JQ (Q_assign At.int) rfl ?_
      refine JN ?_
      refine J_retc ?_
      refine J_then_ret ?_
      refine J_blk_ret ?_
      refine J_then_ret ?_
      refine J_blk_ret ?_
      refine J_then_ret ?_
      exact J_ret2 rfl (ResAt.tmp rfl) (ResAt.tmp rfl) () trivial Split.nil (fun w T v hv => ⟨(_, _), trivial, hv⟩)
    try simp only [BS, ne_eq] at h2
    refine J_skip ?_
    refine J_then_normal ?_
    refine JSR ?_
    refine JM rfl rfl ?_
    refine JQ (Q_load (.tmp rfl) T81) rfl ?_
    refine JQ (Q_buildSlice (α := (Int × Str × (Arr 20 UInt8))) E81 Tryz.underlying82 [.tmp 24] [_] rfl rfl ⟨(.tmp rfl), trivial⟩ (Nat.le_of_ble_eq_true rfl)) rfl ?_
    refine J_append (α := (Int × Str × (Arr 20 UInt8))) E81 Tryz.underlying82 (.tmp rfl) (.tmp rfl) (by repeat first | exact R0 | apply RT) (by first | omega | (simp; omega)) (by first | (simp only [maxLen]; omega) | (simp [maxLen]; omega)) rfl (fun v26 => ?_)
    refine JA rfl rfl ?_
    refine JNR ?_
    refine JM rfl rfl ?_
    refine JA rfl rfl ?_
    refine J_nil ?_
    refine J_blk_normal ?_
    refine J_then_normal ?_
    refine J_back ((q.2.toNat, v26, l ++ [q.1])) ?_ ?_ ?_ ?_
    · exact ⟨⟨by omega, by rw [List.length_append]; simp; omega, fun e he => by rw [List.mem_append, List.mem_singleton] at he; rcases he with he | rfl; (exact hl e he); exact hq1⟩, by simp only; omega⟩
    · exact ⟨fe rfl (by first | rfl | exact vint_eq (by first | omega | simp <;> omega) | exact vsl_eq (by simp) | exact vstr_eq (by simp)), fe rfl (by first | rfl | exact vint_eq (by first | omega | simp <;> omega) | exact vsl_eq (by simp) | exact vstr_eq (by simp)), trivial⟩
    · exact ⟨rfl, trivial⟩
    · exact (Has.take (Repl.row (by repeat first | exact R0 | apply RT) (by first | rfl | simp)) Has.nil)
  try simp only [BS, ne_eq] at h1
  refine J_exit ?_
  refine J_then_exit ?_
  refine J_then_exit ?_
  refine J_blk_out ?_
  refine J_then_normal ?_
  refine J_seq ?_
  refine JSR ?_
  refine J_freezeR (sl := 4) (by repeat first | exact R0 | apply RT) rfl ?_
  refine JM rfl rfl ?_
  refine JQ (Q_call (rRising_c _ (fun e he => Nat.le_trans (hl e he) (by first | omega | simp <;> omega))) ⟨(.tmp rfl), trivial⟩) rfl ?_
  refine JQ (Q_not (.tmp rfl)) rfl ?_
  refine JN ?_
  refine J_cond (.tmp rfl) (fun h3 => ?_) (fun h3 => ?_)
  · try simp only [BS, ne_eq] at h3
    refine JSR ?_
    refine JQ (Q_assign (At.nils (α := (Int × Str × (Arr 20 UInt8))))) rfl ?_
    refine JQ (Q_assign At.int) rfl ?_
    refine JN ?_
    refine J_retc ?_
    refine J_then_ret ?_
    exact J_ret2 rfl (ResAt.tmp rfl) (ResAt.tmp rfl) () trivial Split.nil (fun w T v hv => ⟨(_, _), trivial, hv⟩)
  try simp only [BS, ne_eq] at h3
  refine J_skip ?_
  refine J_then_normal ?_
  refine J_seq ?_
  refine JSR ?_
  refine JM rfl rfl ?_
  refine JQ (Q_len Tryz.underlying82 rfl (.tmp rfl)) rfl ?_
  refine JQ (Q_gtr (.tmp rfl) At.int) rfl ?_
  refine JN ?_
  refine J_cond (.tmp rfl) (fun h4 => ?_) (fun h4 => ?_)
  · try simp only [BS, ne_eq] at h4
    refine JSR ?_
    refine JQ (Q_assign (At.nils (α := (Int × Str × (Arr 20 UInt8))))) rfl ?_
    refine JQ (Q_assign At.int) rfl ?_
    refine JN ?_
    refine J_retc ?_
    refine J_then_ret ?_
    exact J_ret2 rfl (ResAt.tmp rfl) (ResAt.tmp rfl) () trivial Split.nil (fun w T v hv => ⟨(_, _), trivial, hv⟩)
  try simp only [BS, ne_eq] at h4
  refine J_skip ?_
  refine J_then_normal ?_
  refine JSR ?_
  refine JM rfl rfl ?_
  refine JA rfl rfl ?_
  refine JQ (Q_assign At.int) rfl ?_
  refine JN ?_
  refine J_retc ?_
  exact J_ret2 rfl (ResAt.tmp rfl) (ResAt.tmp rfl) () trivial Split.nil (fun w T v hv => ⟨(_, _), trivial, hv⟩)
theorem rCheck_v (k : Int) (b : Bytes) : FnP Tryz.prog 58 [VInt .i64 k, Sl b] (VEx (fun _ : Int => True) (fun q => VInt .i64 q)) := by
  refine FnP_intro (by kernel_rfl) Tryz.func58 rfl Tryz.ntmps58 rfl (fun e => ?_)
  refine JSR ?_
  refine JQ (Q_assign At.int) rfl ?_
  refine JNSSR ?_
  refine JM rfl rfl ?_
  refine JQ (Q_call (rWord_c _) ⟨(.tmp rfl), trivial⟩) rfl ?_
  refine JQ (Q_eqls (.tmp rfl) At.str) rfl ?_
  refine JN ?_
  refine J_cond (.tmp rfl) (fun h0 => ?_) (fun h0 => ?_)
  · try simp only [BS, ne_eq] at h0
    refine JSR ?_
    refine JQ (Q_assign At.int) rfl ?_
    refine JN ?_
    refine J_retc ?_
    refine J_then_ret ?_
    exact J_ret1 rfl (ResAt.tmp rfl) () trivial Split.nil (fun w T v hv => ⟨_, trivial, hv⟩)
  try simp only [BS, ne_eq] at h0
  refine J_skip ?_
  refine J_then_normal ?_
  refine J_seq ?_
  refine JSR ?_
  refine JM rfl rfl ?_
  refine JQ (Q_len Tryz.underlying23 rfl (.tmp rfl)) rfl ?_
  refine JQ (Q_gtr (.tmp rfl) At.int) rfl ?_
  refine JN ?_
  refine J_cond (.tmp rfl) (fun h1 => ?_) (fun h1 => ?_)
  · try simp only [BS, ne_eq] at h1
    refine JSR ?_
    refine JQ (Q_assign At.int) rfl ?_
    refine JN ?_
    refine J_retc ?_
    refine J_then_ret ?_
    exact J_ret1 rfl (ResAt.tmp rfl) () trivial Split.nil (fun w T v hv => ⟨_, trivial, hv⟩)
  try simp only [BS, ne_eq] at h1
  refine J_skip ?_
  refine J_then_normal ?_
  refine JSR ?_
  refine JQ (Q_assign At.int) rfl ?_
  refine JNSSR ?_
  refine JM rfl rfl ?_
  refine JN ?_
  refine J_block ?_
  refine JSR ?_
  refine JQ (Q_eql (.tmp rfl) At.int) rfl ?_
  refine JA rfl rfl ?_
  refine JN ?_
  refine J_cond (.tmp rfl) (fun h2 => ?_) (fun h2 => ?_)
  · try simp only [BS, ne_eq] at h2
    refine J_region ?_
    refine JM rfl rfl ?_
    refine JQ (Q_call (rDecTree_v _) ⟨(.tmp rfl), trivial⟩) rfl ?_
    refine J_open (t := 17) rfl (fun q _ => ?_)
    refine JM rfl rfl ?_
    refine JQ (Q_extract (.tmp rfl) rfl) rfl ?_
    refine JQ (Q_extract (.tmp rfl) rfl) rfl ?_
    refine JA rfl rfl ?_
    refine J_nil ?_
    refine J_blk_normal ?_
    refine J_then_normal ?_
    refine JSR ?_
    refine JM rfl rfl ?_
    refine JA rfl rfl ?_
    refine JN ?_
    refine J_retc ?_
    exact J_ret1 rfl (ResAt.tmp rfl) () trivial Split.nil (fun w T v hv => ⟨_, trivial, hv⟩)
  try simp only [BS, ne_eq] at h2
  refine JSR ?_
  refine JQ (Q_eql (.tmp rfl) At.int) rfl ?_
  refine JA rfl rfl ?_
  refine JN ?_
  refine J_cond (.tmp rfl) (fun h3 => ?_) (fun h3 => ?_)
  · try simp only [BS, ne_eq] at h3
    refine J_region ?_
    refine JM rfl rfl ?_
    refine JQ (Q_call (rDecCommit_v _) ⟨(.tmp rfl), trivial⟩) rfl ?_
    refine J_open (t := 24) rfl (fun q _ => ?_)
    refine JM rfl rfl ?_
    refine JQ (Q_extract (.tmp rfl) rfl) rfl ?_
    refine JQ (Q_extract (.tmp rfl) rfl) rfl ?_
    refine JA rfl rfl ?_
    refine J_nil ?_
    refine J_blk_normal ?_
    refine J_then_normal ?_
    refine JSR ?_
    refine JM rfl rfl ?_
    refine JA rfl rfl ?_
    refine JN ?_
    refine J_retc ?_
    exact J_ret1 rfl (ResAt.tmp rfl) () trivial Split.nil (fun w T v hv => ⟨_, trivial, hv⟩)
  try simp only [BS, ne_eq] at h3
  refine JSR ?_
  refine JQ (Q_eql (.tmp rfl) At.int) rfl ?_
  refine JA rfl rfl ?_
  refine JN ?_
  refine J_cond (.tmp rfl) (fun h4 => ?_) (fun h4 => ?_)
  · try simp only [BS, ne_eq] at h4
    refine J_region ?_
    refine JM rfl rfl ?_
    refine JQ (Q_call (rDecTag_v _) ⟨(.tmp rfl), trivial⟩) rfl ?_
    refine J_open (t := 31) rfl (fun q _ => ?_)
    refine JM rfl rfl ?_
    refine JQ (Q_extract (.tmp rfl) rfl) rfl ?_
    refine JQ (Q_extract (.tmp rfl) rfl) rfl ?_
    refine JA rfl rfl ?_
    refine J_nil ?_
    refine J_blk_normal ?_
    refine J_then_normal ?_
    refine JSR ?_
    refine JM rfl rfl ?_
    refine JA rfl rfl ?_
    refine JN ?_
    refine J_retc ?_
    exact J_ret1 rfl (ResAt.tmp rfl) () trivial Split.nil (fun w T v hv => ⟨_, trivial, hv⟩)
  try simp only [BS, ne_eq] at h4
  refine J_skip ?_
  refine J_blk_normal ?_
  refine J_then_normal ?_
  refine JSR ?_
  refine JM rfl rfl ?_
  refine JA rfl rfl ?_
  refine JN ?_
  refine J_retc ?_
  exact J_ret1 rfl (ResAt.tmp rfl) () trivial Split.nil (fun w T v hv => ⟨_, trivial, hv⟩)
theorem rPut_v {tb p : Nat} (L : List RItem) (c : Bool) (k : Int) (d : Bytes) (hL : L.length ≤ 1000000) (hd : d.length ≤ 1048576) : Fn Tryz.prog 30 [Ptr p 0, VInt .i64 k, Sl d] [BoxR tb p ((L, c) : RMap)]
    (fun q : RMap × Oid => q.1.1.length ≤ L.length + 1) (fun q => V q.2) (fun q => [BoxR tb p q.1]) := by
  refine Fn_intro (by kernel_rfl) Tryz.func30 rfl Tryz.ntmps30 rfl (fun e => ?_)
  refine JSR ?_
  refine J_alloc Z37 rfl (fun b6 => ?_)
  refine JNSSR ?_
  refine JM rfl rfl ?_
  refine JM rfl rfl ?_
  refine JQ (Q_call (rCheck_v _ _) ⟨(.tmp rfl), (.tmp rfl), trivial⟩) rfl ?_
  refine J_open (t := 10) rfl (fun q _ => ?_)
  refine JQ (Q_neq (.tmp rfl) At.int) rfl ?_
  refine JN ?_
  refine J_cond (.tmp rfl) (fun h0 => ?_) (fun h0 => ?_)
  · try simp only [BS, ne_eq] at h0
    refine JSR ?_
    refine JQ (Q_build Z37 T37.agg (by kernel_rfl) BP.nil) rfl ?_
    refine J_store (.tmp rfl) (.tmp rfl) (by (try dsimp only) <;> rfl) (by repeat first | exact R1 | apply RT) Lens.id T37.size ?_
    refine JN ?_
    refine J_retc ?_
    refine J_then_ret ?_
    exact J_ret1 rfl (ResAt.box rfl (by repeat first | exact R0 | apply RT) T37) ((L, c), _) (by simp) (Split.take (by repeat first | exact R0 | apply RT) Split.nil) imp_refl
  try simp only [BS, ne_eq] at h0
  refine J_skip ?_
  refine J_then_normal ?_
  refine JSR ?_
  refine JM rfl rfl ?_
  refine JM rfl rfl ?_
  refine JQ (Q_call (rID_v _ _ (by first | omega | simp <;> omega)) ⟨(.tmp rfl), (.tmp rfl), trivial⟩) rfl ?_
  refine J_open (t := 15) rfl (fun id _ => ?_)
  refine J_alloc Z37 rfl (fun b7 => ?_)
  refine J_store (.tmp rfl) (.tmp rfl) (by (try dsimp only) <;> rfl) (by repeat first | exact R1 | apply RT) Lens.id T37.size ?_
  refine J_freezeB (sl := 7) (by repeat first | exact R0 | apply RT) rfl ?_
  refine JNSR ?_
  refine JM rfl rfl ?_
  refine JQ (Q_load (.tmp rfl) T37) rfl ?_
  refine JM rfl rfl ?_
  refine JM rfl rfl ?_
  refine JQ (Q_build Z72 T72.agg (by kernel_rfl) (BP.cons PL72_0 (Lens.fst Lens.id) (.tmp rfl) (BP.cons PL72_1 (Lens.snd (Lens.fst Lens.id) (by first | rfl | (simp only [Enc.size, Nat.zero_add, Nat.mul_one, Nat.add_zero]; omega))) (.tmp rfl) (BP.cons PL72_2 (Lens.snd (Lens.snd Lens.id (by first | rfl | (simp only [Enc.size, Nat.zero_add, Nat.mul_one, Nat.add_zero]; omega))) (by first | rfl | (simp only [Enc.size, Nat.zero_add, Nat.mul_one, Nat.add_zero]; omega))) (.tmp rfl) BP.nil)))) rfl ?_
  refine J_call (rSet_v _ _ _ ?_) ⟨(.tmp rfl), (.tmp rfl), trivial⟩ (Split.take (by repeat first | exact R0 | apply RT) Split.nil) rfl (fun r21 hr21 => ?_)
  · exact (by first | omega | simp <;> omega)
  refine JNSR ?_
  refine JQ (Q_load (.tmp rfl) T37) rfl ?_
  refine J_store (.tmp rfl) (.tmp rfl) (by (try dsimp only) <;> rfl) (by repeat first | exact R1 | apply RT) Lens.id T37.size ?_
  refine JN ?_
  refine J_retc ?_
  exact J_ret1 rfl (ResAt.box rfl (by repeat first | exact R0 | apply RT) T37) (r21, _) (by exact hr21) (Split.take (by repeat first | exact R0 | apply RT) Split.nil) imp_refl
end Go.Sep
namespace Go.Sep
open Go Go.Proofs
open Enc (V)
abbrev Thing := Int × List UInt8
def madeM (l : List Thing) : Objs := l.foldl (fun m t => putM m t.1 t.2) []
def madeIds (l : List Thing) : List Oid := l.map fun t => putId t.1 t.2
theorem madeM_s {l : List Thing} {k : Nat} (h : k < l.length) : madeM (l.take (k + 1)) = putM (madeM (l.take k)) l[k].1 l[k].2 := by
  unfold madeM; rw [List.take_succ_eq_append_getElem h, List.foldl_append]; rfl
theorem madeIds_s {l : List Thing} {k : Nat} (h : k < l.length) : madeIds (l.take (k + 1)) = madeIds (l.take k) ++ [putId l[k].1 l[k].2] := by
  unfold madeIds; rw [List.take_succ_eq_append_getElem h, List.map_append]; rfl
def pickN (ids : List Oid) (by_ : List UInt8) : Nat → List Oid
  | 0 => []
  | k + 1 => pickN ids by_ k ++ [ids.getD ((by_.getD k 0).toNat % ids.length) GoZero.z]
def pickIds (ids : List Oid) (by_ : List UInt8) : List Oid := if ids.length = 0 then [] else pickN ids by_ (min by_.length 30)
theorem pickN_len (ids : List Oid) (b : List UInt8) : ∀ k, (pickN ids b k).length = k
  | 0 => rfl
  | k + 1 => by rw [pickN, List.length_append, pickN_len ids b k]; rfl
def smallT (l : List Thing) : Prop := l.length ≤ 30 ∧ ∀ t ∈ l, t.2.length ≤ 600
attribute [local irreducible] Quiet QStep J At FnX Fn FnP Repl Split Has Post Back GoZ
attribute [local irreducible] putM putId
theorem rClash_v (l : List Thing) (hl : l.length ≤ 1000) (hd : ∀ t ∈ l, t.2.length ≤ 600) : FnP Tryz.prog 29 [Sl l] (VEx (fun _ : Bool => True) VBool) := by
  have hdk : ∀ k (h : k < l.length), (l[k]).2.length ≤ 600 := fun k h => hd _ (List.getElem_mem h)
  refine FnP_intro (by kernel_rfl) Tryz.func29 rfl Tryz.ntmps29 rfl (fun e => ?_)
  refine JSR ?_
  refine JQ (Q_assign At.bool) rfl ?_
  refine JNSR ?_
  refine JQ (Q_build Z56 T56.agg (by kernel_rfl) BP.nil) rfl ?_
  refine J_box (α := ((List ((Arr 20 UInt8) × Int × (List UInt8))) × Bool)) (.tmp rfl) rfl (fun b6 => ?_)
  refine JA rfl rfl ?_
  refine JNSSR ?_
  refine JQ (Q_assign At.int) rfl ?_
  refine JN ?_
  refine J_block ?_
  refine J_loopU (ι := Nat × RMap) (fun q => match q with | (k, rm) => k ≤ l.length ∧ rm.1.length ≤ k) (fun q => match q with | (k, rm) => [(4, VInt .i64 (k : Nat))]) [(0, _), (2, _), (3, _)] (fun q => match q with | (k, rm) => [BoxR 56 b6 rm]) (fun q => match q with | (k, rm) => l.length - k) ((0, GoZero.z)) ⟨by omega, Nat.le_refl _⟩ ⟨fe rfl (by first | rfl | exact vint_eq (by first | omega | simp <;> omega) | exact vsl_eq (by simp) | exact vstr_eq (by simp)), trivial⟩ ⟨rfl, rfl, rfl, trivial⟩ (Has.take (Repl.box (by repeat first | exact R0 | apply RT) (by first | rfl | simp)) Has.nil) (fun q hq => ?_)
  obtain ⟨k, rm⟩ := q
  try dsimp only at hq
  obtain ⟨hk, hrm⟩ := hq
  refine J_seq ?_
  refine JSR ?_
  refine JM rfl rfl ?_
  refine JM rfl rfl ?_
  refine JQ (Q_len Tryz.underlying22 rfl (.tmp rfl)) rfl ?_
  refine JQ (Q_lss (.tmp rfl) (.tmp rfl)) rfl ?_
  refine JN ?_
  refine J_cond (.tmp rfl) (fun h0 => ?_) (fun h0 => ?_)
  · try simp only [BS, ne_eq] at h0
    refine J_skip ?_
    refine J_then_normal ?_
    refine J_seq ?_
    refine J_block ?_
    refine J_draw mix 23 [13, 14, 15, 16, 17, 18, 19, 20, 21, 22, 23, 24, 25, 26, 27, 28, 29, 30, 31, 32, 33, 34, 35] [_, _, _, _, _, _, _, _, _, _, _, _, _, _, _, _, _, _, _, _, _, _, _] rfl rfl (by kernel_rfl) (by kernel_rfl) (by kernel_rfl) (by kernel_rfl) (by kernel_rfl) ⟨QS (Q_move (.tmp rfl)) rfl, QS (Q_move (.tmp rfl)) rfl, QS (Q_move (.tmp rfl)) rfl, QS ((by first | exact Q_idxAddrN Tryz.underlying22 T53.size (.tmp rfl) (.tmp rfl) (by first | omega | simp <;> omega) | exact Q_idxAddr Tryz.underlying22 T53.size (.tmp rfl) (.tmp rfl) (by first | omega | simp <;> omega) (by first | omega | simp <;> omega))) rfl, QS (Q_fieldAddrI F53_0 (by decide) (Lens.fst Lens.id) (.tmp rfl)) rfl, QS (Q_load (.tmp rfl) T3) rfl, QS (Q_move (.tmp rfl)) rfl, QS (Q_move (.tmp rfl)) rfl, QS ((by first | exact Q_idxAddrN Tryz.underlying22 T53.size (.tmp rfl) (.tmp rfl) (by first | omega | simp <;> omega) | exact Q_idxAddr Tryz.underlying22 T53.size (.tmp rfl) (.tmp rfl) (by first | omega | simp <;> omega) (by first | omega | simp <;> omega))) rfl, QS (Q_fieldAddrI F53_1 (by decide) (Lens.snd Lens.id (by first | rfl | (simp only [Enc.size, Nat.zero_add, Nat.mul_one, Nat.add_zero]; omega))) (.tmp rfl)) rfl, QS (Q_load (.tmp rfl) T23) rfl, QS (Q_call (rID_v _ _ (Nat.le_trans (hdk _ _) (by first | omega | simp <;> omega))) ⟨(.tmp rfl), (.tmp rfl), trivial⟩) rfl, QS (Q_move (.tmp rfl)) rfl, QS (Q_move (.tmp rfl)) rfl, QS ((by first | exact Q_idxAddrN Tryz.underlying22 T53.size (.tmp rfl) (.tmp rfl) (by first | omega | simp <;> omega) | exact Q_idxAddr Tryz.underlying22 T53.size (.tmp rfl) (.tmp rfl) (by first | omega | simp <;> omega) (by first | omega | simp <;> omega))) rfl, QS (Q_fieldAddrI F53_0 (by decide) (Lens.fst Lens.id) (.tmp rfl)) rfl, QS (Q_load (.tmp rfl) T3) rfl, QS (Q_move (.tmp rfl)) rfl, QS (Q_move (.tmp rfl)) rfl, QS ((by first | exact Q_idxAddrN Tryz.underlying22 T53.size (.tmp rfl) (.tmp rfl) (by first | omega | simp <;> omega) | exact Q_idxAddr Tryz.underlying22 T53.size (.tmp rfl) (.tmp rfl) (by first | omega | simp <;> omega) (by first | omega | simp <;> omega))) rfl, QS (Q_fieldAddrI F53_1 (by decide) (Lens.snd Lens.id (by first | rfl | (simp only [Enc.size, Nat.zero_add, Nat.mul_one, Nat.add_zero]; omega))) (.tmp rfl)) rfl, QS (Q_load (.tmp rfl) T23) rfl, QS (Q_vex (t := 24) (Y := fun id : Oid => V ((id, (l[k]).1, (l[k]).2) : RItem)) rfl (fun id _ => Q_build Z72 T72.agg (by kernel_rfl) (BP.cons PL72_0 (Lens.fst Lens.id) (.tmp rfl) (BP.cons PL72_1 (Lens.snd (Lens.fst Lens.id) (by first | rfl | (simp only [Enc.size, Nat.zero_add, Nat.mul_one, Nat.add_zero]; omega))) (.tmp rfl) (BP.cons PL72_2 (Lens.snd (Lens.snd Lens.id (by first | rfl | (simp only [Enc.size, Nat.zero_add, Nat.mul_one, Nat.add_zero]; omega))) (by first | rfl | (simp only [Enc.size, Nat.zero_add, Nat.mul_one, Nat.add_zero]; omega))) (.tmp rfl) BP.nil))))) rfl, trivial⟩ ?_
    refine J_open (t := 35) rfl (fun id _ => ?_)
    refine J_call (rSet_v rm.1 rm.2 _ ?_) ⟨(.tmp rfl), (.tmp rfl), trivial⟩ (Split.take (by repeat first | exact R0 | apply RT) Split.nil) rfl (fun r36 hr36 => ?_)
    · exact (by first | omega | simp <;> omega)
    refine J_nil ?_
    refine J_blk_normal ?_
    refine J_then_normal ?_
    refine J_region ?_
    refine JM rfl rfl ?_
    refine JQ (Q_addi (.tmp rfl) At.int (by first | omega | simp <;> omega) (by first | omega | simp <;> omega)) rfl ?_
    refine JA rfl rfl ?_
    refine JN ?_
    refine J_back ((k + 1, r36)) ?_ ?_ ?_ ?_
    · exact ⟨⟨by omega, by omega⟩, by simp only; omega⟩
    · exact ⟨fe rfl (by first | rfl | exact vint_eq (by first | omega | simp <;> omega) | exact vsl_eq (by simp) | exact vstr_eq (by simp)), trivial⟩
    · exact ⟨rfl, rfl, rfl, trivial⟩
    · exact (Has.take (Repl.box (by repeat first | exact R0 | apply RT) (by first | rfl | simp)) Has.nil)
  try simp only [BS, ne_eq] at h0
  refine J_exit ?_
  refine J_then_exit ?_
  refine J_then_exit ?_
  refine J_blk_out ?_
  refine J_then_normal ?_
  refine JSR ?_
  refine JM rfl rfl ?_
  refine JQ (Q_nilChkP (.tmp rfl)) rfl ?_
  refine JQ (Q_fieldAddrP F56_1 (by decide) (.tmp rfl)) rfl ?_
  refine JQ (Q_loadB (.tmp rfl) (by repeat first | exact R0 | apply RT) (Lens.snd Lens.id (by first | rfl | (simp only [Enc.size, Nat.zero_add, Nat.mul_one, Nat.add_zero]; omega))) T4 (by (try dsimp only) <;> rfl)) rfl ?_
  refine JA rfl rfl ?_
  refine JN ?_
  refine J_retc ?_
  exact J_ret1 rfl (ResAt.tmp rfl) () trivial Split.nil (fun w T v hv => ⟨_, trivial, hv⟩)
theorem rFew_v (l : List Thing) (hl0 : l.length ≤ 9223372036854775807) : FnP Tryz.prog 9 [Sl l] (VEx (fun c : Bool => c = true → smallT l) VBool) := by
  refine FnP_intro (by kernel_rfl) Tryz.func9 rfl Tryz.ntmps9 rfl (fun e => ?_)
  refine JSR ?_
  refine JQ (Q_assign At.bool) rfl ?_
  refine JNSSR ?_
  refine JM rfl rfl ?_
  refine JQ (Q_len Tryz.underlying22 rfl (.tmp rfl)) rfl ?_
  refine JQ (Q_gtr (.tmp rfl) At.int) rfl ?_
  refine JN ?_
  refine J_cond (.tmp rfl) (fun h0 => ?_) (fun h0 => ?_)
  · try simp only [BS, ne_eq] at h0
    refine JSR ?_
    refine JQ (Q_assign At.bool) rfl ?_
    refine JN ?_
    refine J_retc ?_
    refine J_then_ret ?_
    exact J_ret1 rfl (ResAt.tmp rfl) () trivial Split.nil (fun w T v hv => ⟨false, (fun h => by cases h), hv⟩)
  try simp only [BS, ne_eq] at h0
  refine J_skip ?_
  refine J_then_normal ?_
  refine J_seq ?_
  refine JSR ?_
  refine JQ (Q_assign At.int) rfl ?_
  refine JN ?_
  refine J_block ?_
  refine J_loopU (ι := Nat) (fun k => k ≤ l.length ∧ ∀ t ∈ l.take k, t.2.length ≤ 600) (fun k => [(3, VInt .i64 (k : Nat))]) [(0, _)] (fun k => []) (fun k => l.length - k) (0) ⟨by omega, by simp⟩ ⟨fe rfl (by first | rfl | exact vint_eq (by first | omega | simp <;> omega) | exact vsl_eq (by simp) | exact vstr_eq (by simp)), trivial⟩ ⟨rfl, trivial⟩ Has.nil (fun k hq => ?_)
  obtain ⟨hk, hd⟩ := hq
  refine J_seq ?_
  refine JSR ?_
  refine JM rfl rfl ?_
  refine JM rfl rfl ?_
  refine JQ (Q_len Tryz.underlying22 rfl (.tmp rfl)) rfl ?_
  refine JQ (Q_lss (.tmp rfl) (.tmp rfl)) rfl ?_
  refine JN ?_
  refine J_cond (.tmp rfl) (fun h1 => ?_) (fun h1 => ?_)
  · try simp only [BS, ne_eq] at h1
    refine J_skip ?_
    refine J_then_normal ?_
    refine J_seq ?_
    refine J_block ?_
    refine JSR ?_
    refine JM rfl rfl ?_
    refine JM rfl rfl ?_
    refine JQ (by first | exact Q_idxAddrN Tryz.underlying22 T53.size (.tmp rfl) (.tmp rfl) (by first | omega | simp <;> omega) | exact Q_idxAddr Tryz.underlying22 T53.size (.tmp rfl) (.tmp rfl) (by first | omega | simp <;> omega) (by first | omega | simp <;> omega)) rfl ?_
    refine JQ (Q_fieldAddrI F53_1 (by decide) (Lens.snd Lens.id (by first | rfl | (simp only [Enc.size, Nat.zero_add, Nat.mul_one, Nat.add_zero]; omega))) (.tmp rfl)) rfl ?_
    refine JQ (Q_load (.tmp rfl) T23) rfl ?_
    refine JQ (Q_len Tryz.underlying23 rfl (.tmp rfl)) rfl ?_
    refine JQ (Q_gtr (.tmp rfl) At.int) rfl ?_
    refine JN ?_
    refine J_cond (.tmp rfl) (fun h2 => ?_) (fun h2 => ?_)
    · try simp only [BS, ne_eq] at h2
      refine JSR ?_
      refine JQ (Q_assign At.bool) rfl ?_
      refine JN ?_
      refine J_retc ?_
      refine J_blk_ret ?_
      refine J_then_ret ?_
      refine J_then_ret ?_
      refine J_blk_ret ?_
      refine J_then_ret ?_
      exact J_ret1 rfl (ResAt.tmp rfl) () trivial Split.nil (fun w T v hv => ⟨false, (fun h => by cases h), hv⟩)
    try simp only [BS, ne_eq] at h2
    refine J_skip ?_
    refine J_blk_normal ?_
    refine J_then_normal ?_
    refine J_region ?_
    refine JM rfl rfl ?_
    refine JQ (Q_addi (.tmp rfl) At.int (by first | omega | simp <;> omega) (by first | omega | simp <;> omega)) rfl ?_
    refine JA rfl rfl ?_
    refine JN ?_
    refine J_back (k + 1) ?_ ?_ ?_ ?_
    · exact ⟨⟨by omega, fun t ht => by rw [List.take_succ_eq_append_getElem (by first | omega | simp <;> omega), List.mem_append, List.mem_singleton] at ht; rcases ht with ht | rfl; (exact hd t ht); omega⟩, by omega⟩
    · exact ⟨fe rfl (by first | rfl | exact vint_eq (by first | omega | simp <;> omega) | exact vsl_eq (by simp) | exact vstr_eq (by simp)), trivial⟩
    · exact ⟨rfl, trivial⟩
    · exact Has.nil
  try simp only [BS, ne_eq] at h1
  refine J_exit ?_
  refine J_then_exit ?_
  refine J_then_exit ?_
  refine J_blk_out ?_
  refine J_then_normal ?_
  refine JSR ?_
  obtain hke : k = l.length := (by first | omega | simp <;> omega)
  rw [hke, List.take_length] at hd
  refine JM rfl rfl ?_
  refine JQ (Q_call (rClash_v l (by first | omega | simp <;> omega) hd) ⟨(.tmp rfl), trivial⟩) rfl ?_
  refine J_open (t := 21) rfl (fun c _ => ?_)
  refine JQ (Q_not (.tmp rfl)) rfl ?_
  refine JA rfl rfl ?_
  refine JN ?_
  refine J_retc ?_
  exact J_ret1 rfl (ResAt.tmp rfl) () trivial Split.nil (fun w T v hv => ⟨_, (fun _ => ⟨by omega, hd⟩), hv⟩)
theorem pick_c (ids : List Oid) (b : Bytes) (hi : ids.length ≤ 1048576) (hb : b.length ≤ 9223372036854775807) : FnP Tryz.prog 11 [Sl ids, Sl b] (Sl (pickIds ids b)) := by
  refine FnP_intro (by kernel_rfl) Tryz.func11 rfl Tryz.ntmps11 rfl (fun e => ?_)
  refine JSR ?_
  refine JQ (Q_assign (At.nils (α := (Arr 20 UInt8)))) rfl ?_
  refine JNSR ?_
  refine JQ (Q_assign At.const) rfl ?_
  refine JNSSR ?_
  refine JQ (Q_assign At.int) rfl ?_
  refine JN ?_
  refine J_block ?_
  refine J_rowNil (el := 38) Oid ?_
  refine J_loopU (ι := Nat × Value) (fun q => match q with | (k, u) => k ≤ b.length ∧ k ≤ 30 ∧ (ids.length = 0 → k = 0)) (fun q => match q with | (k, u) => [(6, VInt .i64 (k : Nat)), (5, Is u)]) [(0, _), (1, _), (4, _)] (fun q => match q with | (k, u) => [RowR 38 u (pickN ids b k)]) (fun q => match q with | (k, u) => b.length - k) ((0, .slice none 0 0)) ⟨by omega, by omega, fun _ => rfl⟩ ⟨fe rfl (by first | rfl | exact vint_eq (by first | omega | simp <;> omega) | exact vsl_eq (by simp) | exact vstr_eq (by simp)), fe rfl (by first | rfl | exact vint_eq (by first | omega | simp <;> omega) | exact vsl_eq (by simp) | exact vstr_eq (by simp)), trivial⟩ ⟨rfl, rfl, rfl, trivial⟩ (Has.take (Repl.row (by repeat first | exact R0 | apply RT) (by first | rfl | simp)) Has.nil) (fun q hq => ?_)
  obtain ⟨k, u⟩ := q
  try dsimp only at hq
  obtain ⟨hk, hk30, hk0⟩ := hq
  have hpl := pickN_len ids b k
  refine J_seq ?_
  refine JSR ?_
  refine JM rfl rfl ?_
  refine JM rfl rfl ?_
  refine JQ (Q_len Tryz.underlying23 rfl (.tmp rfl)) rfl ?_
  refine JQ (Q_lss (.tmp rfl) (.tmp rfl)) rfl ?_
  refine JM rfl rfl ?_
  refine J_qstep (QG rfl rfl rfl rfl rfl opt_bool (fun hg => Q_move (.tmp rfl))) rfl rfl ?_
  refine J_qstep (QG rfl rfl rfl rfl rfl opt_bool (fun hg => (by have hg0 := hg; simp only [BS, ne_eq] at hg0; exact Q_lss (At.opt rfl (by first | exact hg | (simp only [BS, ne_eq] at hg ⊢; first | exact hg | simp_all))) At.int))) rfl rfl ?_
  refine JQ (Q_andB (.tmp rfl) (fun hb => At.opt rfl (by simp only [BS, ne_eq] at hb ⊢; first | exact hb | simp_all))) rfl ?_
  refine JM rfl rfl ?_
  refine J_qstep (QG rfl rfl rfl rfl rfl opt_bool (fun hg => Q_move (.tmp rfl))) rfl rfl ?_
  refine J_qstep (QG rfl rfl rfl rfl rfl opt_bool (fun hg => (by have hg0 := hg; simp only [BS, ne_eq] at hg0; exact Q_len Tryz.underlying29 rfl (At.opt rfl (by first | exact hg | (simp only [BS, ne_eq] at hg ⊢; first | exact hg | simp_all)))))) rfl rfl ?_
  refine J_qstep (QG rfl rfl rfl rfl rfl opt_bool (fun hg => (by have hg0 := hg; simp only [BS, ne_eq] at hg0; exact Q_gtr (At.opt rfl (by first | exact hg | (simp only [BS, ne_eq] at hg ⊢; first | exact hg | simp_all))) At.int))) rfl rfl ?_
  refine JQ (Q_andB (.tmp rfl) (fun hb => At.opt rfl (by simp only [BS, ne_eq] at hb ⊢; first | exact hb | simp_all))) rfl ?_
  refine JN ?_
  refine J_cond (.tmp rfl) (fun h0 => ?_) (fun h0 => ?_)
  · try simp only [BS, ne_eq] at h0
    have hml := Nat.mod_lt (b[k]).toNat (show 0 < ids.length by omega)
    refine J_skip ?_
    refine J_then_normal ?_
    refine J_seq ?_
    refine J_block ?_
    refine J_region ?_
    refine JM rfl rfl ?_
    refine JM rfl rfl ?_
    refine JM rfl rfl ?_
    refine JM rfl rfl ?_
    refine JQ (by first | exact Q_idxAddrN Tryz.underlying23 T5.size (.tmp rfl) (.tmp rfl) (by first | omega | simp <;> omega) | exact Q_idxAddr Tryz.underlying23 T5.size (.tmp rfl) (.tmp rfl) (by first | omega | simp <;> omega) (by first | omega | simp <;> omega)) rfl ?_
    refine JQ (Q_load (.tmp rfl) T5) rfl ?_
    refine JQ (Q_conv8to64 (.tmp rfl) (by kernel_rfl) Tryz.underlying3) rfl ?_
    refine JM rfl rfl ?_
    refine JQ (Q_len Tryz.underlying29 rfl (.tmp rfl)) rfl ?_
    refine JQ (Quiet.imp (Q_remi (.tmp rfl) (.tmp rfl) (by first | omega | simp <;> omega) (by first | omega | simp <;> omega)) (imp_eq (congrArg (VInt .i64) (show _ = ((((b[k]).toNat % ids.length : Nat)) : Int) from (Int.natCast_emod _ _).symm)))) rfl ?_
    refine JQ (Q_idxAddrZ Tryz.underlying29 T38.size (.tmp rfl) (.tmp rfl) (by first | omega | simp <;> omega) (by first | omega | simp <;> omega)) rfl ?_
    refine JQ (Q_load (.tmp rfl) T38) rfl ?_
    refine JQ (Q_buildSlice (α := (Arr 20 UInt8)) E38 Tryz.underlying29 [.tmp 33] [_] rfl rfl ⟨(.tmp rfl), trivial⟩ (Nat.le_of_ble_eq_true rfl)) rfl ?_
    refine J_append (α := (Arr 20 UInt8)) E38 Tryz.underlying29 (.tmp rfl) (.tmp rfl) (by repeat first | exact R0 | apply RT) (by first | omega | (simp; omega)) (by first | (simp only [maxLen]; omega) | (simp [maxLen]; omega)) rfl (fun v35 => ?_)
    refine JA rfl rfl ?_
    refine J_nil ?_
    refine J_blk_normal ?_
    refine J_then_normal ?_
    refine J_region ?_
    refine JM rfl rfl ?_
    refine JQ (Q_addi (.tmp rfl) At.int (by first | omega | simp <;> omega) (by first | omega | simp <;> omega)) rfl ?_
    refine JA rfl rfl ?_
    refine JN ?_
    refine J_back ((k + 1, v35)) ?_ ?_ ?_ ?_
    · exact ⟨⟨by omega, by omega, fun h => by omega⟩, by simp only; omega⟩
    · exact ⟨fe rfl (by first | rfl | exact vint_eq (by first | omega | simp <;> omega) | exact vsl_eq (by simp) | exact vstr_eq (by simp)), fe rfl (by first | rfl | exact vint_eq (by first | omega | simp <;> omega) | exact vsl_eq (by simp) | exact vstr_eq (by simp)), trivial⟩
    · exact ⟨rfl, rfl, rfl, trivial⟩
    · exact (Has.take (Repl.row (by repeat first | exact R0 | apply RT) (by rw [pickN]; congr 3; simp [show k < b.length by omega]; omega)) Has.nil)
  try simp only [BS, ne_eq] at h0
  refine J_exit ?_
  refine J_then_exit ?_
  refine J_then_exit ?_
  refine J_blk_out ?_
  refine J_then_normal ?_
  refine JSR ?_
  refine J_freezeR (sl := 5) (by repeat first | exact R0 | apply RT) rfl ?_
  refine JM rfl rfl ?_
  refine JA rfl rfl ?_
  refine JN ?_
  refine J_retc ?_
  exact J_ret1 rfl (ResAt.tmp rfl) () trivial Split.nil (imp_eq (vsl_eq (by unfold pickIds; split; (rename_i h; rw [hk0 h]; rfl); (congr 1; omega))))
end Go.Sep
namespace Go.Sep
open Go Go.Proofs
open Enc (V)
attribute [local irreducible] Quiet QStep J At FnX Fn FnP Repl Split Has Post Back GoZ
attribute [local irreducible] putM putId
set_option maxRecDepth 100000
theorem made_c (l : List Thing) (hs : smallT l) : Fn Tryz.prog 10 [Sl l] [] (fun _ : Nat × Nat × RMap => True) (fun q => VTup [MapP q.1, Ptr q.2.1 0, Sl (madeIds l)]) (fun q => [MapR q.1 (madeM l), BoxR 56 q.2.1 q.2.2]) := by
  obtain ⟨hl30, hd⟩ := hs
  have hdk : ∀ k (h : k < l.length), (l[k]).2.length ≤ 600 := fun k h => hd _ (List.getElem_mem h)
  refine Fn_intro (by kernel_rfl) Tryz.func10 rfl Tryz.ntmps10 rfl (fun e => ?_)
  refine JSR ?_
  refine JQ (Q_assign At.const) rfl ?_
  refine JQ (Q_assign At.const) rfl ?_
  refine JQ (Q_assign At.const) rfl ?_
  refine JNSR ?_
  refine J_makeMap (Arr 20 UInt8) (Int × (List UInt8)) rfl (fun b10 => ?_)
  refine JA rfl rfl ?_
  refine JNSR ?_
  refine JQ (Q_build Z56 T56.agg (by kernel_rfl) BP.nil) rfl ?_
  refine J_box (α := ((List ((Arr 20 UInt8) × Int × (List UInt8))) × Bool)) (.tmp rfl) rfl (fun b12 => ?_)
  refine JA rfl rfl ?_
  refine JNSR ?_
  refine JQ (Q_assign At.const) rfl ?_
  refine JNSSR ?_
  refine JQ (Q_assign At.int) rfl ?_
  refine JN ?_
  refine J_block ?_
  refine J_rowNil (el := 38) Oid ?_
  refine J_loopU (ι := Nat × RMap × Value) (fun q => match q with | (k, rm, u) => k ≤ l.length ∧ rm.1.length ≤ k) (fun q => match q with | (k, rm, u) => [(8, VInt .i64 (k : Nat)), (7, Is u)]) [(0, _), (2, _), (3, _), (4, _), (5, _), (6, _)] (fun q => match q with | (k, rm, u) => [MapR b10 (madeM (l.take k)), BoxR 56 b12 rm, RowR 38 u (madeIds (l.take k))]) (fun q => match q with | (k, rm, u) => l.length - k) ((0, GoZero.z, .slice none 0 0)) ⟨by omega, Nat.le_refl _⟩ ⟨fe rfl (by first | rfl | exact vint_eq (by first | omega | simp <;> omega) | exact vsl_eq (by simp) | exact vstr_eq (by simp)), fe rfl (by first | rfl | exact vint_eq (by first | omega | simp <;> omega) | exact vsl_eq (by simp) | exact vstr_eq (by simp)), trivial⟩ ⟨rfl, rfl, rfl, rfl, rfl, rfl, trivial⟩ (Has.take (Repl.map (by repeat first | exact R0 | apply RT) (by first | rfl | simp)) (Has.take (Repl.box (by repeat first | exact R0 | apply RT) (by first | rfl | simp)) (Has.take (Repl.row (by repeat first | exact R0 | apply RT) (by first | rfl | simp)) Has.nil))) (fun q hq => ?_)
  obtain ⟨k, rm, u⟩ := q
  try dsimp only at hq
  obtain ⟨hk, hrm⟩ := hq
  have hml : (madeIds (l.take k)).length = k := by unfold madeIds; simp; omega
  refine J_seq ?_
  refine JSR ?_
  refine JM rfl rfl ?_
  refine JM rfl rfl ?_
  refine JQ (Q_len Tryz.underlying22 rfl (.tmp rfl)) rfl ?_
  refine JQ (Q_lss (.tmp rfl) (.tmp rfl)) rfl ?_
  refine JN ?_
  refine J_cond (.tmp rfl) (fun h0 => ?_) (fun h0 => ?_)
  · try simp only [BS, ne_eq] at h0
    refine J_skip ?_
    refine J_then_normal ?_
    refine J_seq ?_
    refine J_block ?_
    refine J_seq ?_
    refine J_drawG (ι₁ := Unit) (ι₂ := Nat) (fun o1 o2 => [MapR b10 (match o1 with | none => madeM (l.take k) | some _ => putM (madeM (l.take k)) (l[k]).1 (l[k]).2)] ++ ((match o2 with | none => [] | some b => [BoxR 38 b (GoZero.z : Oid)]) ++ [BoxR 56 b12 rm, RowR 38 u (madeIds (l.take k))])) (fun _ => True) (fun _ => True) (fun _ => V (putId (l[k]).1 (l[k]).2)) (fun b => Ptr b 0) rfl mix 13 11 12 [19, 20, 21, 22, 23, 24, 25, 26, 27, 28, 29, 30, 9] [_, _, _, _, _, _, _, _, _, _, _, Any, Any] rfl rfl (by kernel_rfl) (by kernel_rfl) (by kernel_rfl) (by kernel_rfl) (by kernel_rfl) (by kernel_rfl) (by intro o ho; obtain rfl := Option.some.inj ho; rfl) (by intro o ho; obtain rfl := Option.some.inj ho; rfl) (fun _ => rfl) (fun _ => rfl) [false, false, false, false, false, false, false, false, false, false, false, true, true] (by kernel_rfl) (fun o1 o2 => by rcases o1 with _ | o1 <;> rcases o2 with _ | o2 <;> exact ⟨QS (Q_move (.tmp rfl)) rfl, QS (Q_move (.tmp rfl)) rfl, QS (Q_move (.tmp rfl)) rfl, QS ((by first | exact Q_idxAddrN Tryz.underlying22 T53.size (.tmp rfl) (.tmp rfl) (by first | omega | simp <;> omega) | exact Q_idxAddr Tryz.underlying22 T53.size (.tmp rfl) (.tmp rfl) (by first | omega | simp <;> omega) (by first | omega | simp <;> omega))) rfl, QS (Q_fieldAddrI F53_0 (by decide) (Lens.fst Lens.id) (.tmp rfl)) rfl, QS (Q_load (.tmp rfl) T3) rfl, QS (Q_move (.tmp rfl)) rfl, QS (Q_move (.tmp rfl)) rfl, QS ((by first | exact Q_idxAddrN Tryz.underlying22 T53.size (.tmp rfl) (.tmp rfl) (by first | omega | simp <;> omega) | exact Q_idxAddr Tryz.underlying22 T53.size (.tmp rfl) (.tmp rfl) (by first | omega | simp <;> omega) (by first | omega | simp <;> omega))) rfl, QS (Q_fieldAddrI F53_1 (by decide) (Lens.snd Lens.id (by first | rfl | (simp only [Enc.size, Nat.zero_add, Nat.mul_one, Nat.add_zero]; omega))) (.tmp rfl)) rfl, QS (Q_load (.tmp rfl) T23) rfl, trivial⟩) (fun o2 o ho => ?_) (fun o1 o ho => ?_) (fun o1 o2 ho1 ho2 hc1 hc2 => ?_)
    · obtain rfl := Option.some.inj ho
      rcases o2 with _ | o2 <;> exact E_callI (xs := [.tmp 19, .tmp 24, .tmp 29]) (put_m (madeM (l.take k)) _ _) ⟨(.tmp rfl), (.tmp rfl), (.tmp rfl), trivial⟩ (Split.take (by repeat first | exact R0 | apply RT) Split.nil) (fun _ => List.Perm.refl _)
    · obtain rfl := Option.some.inj ho
      rcases o1 with _ | o1 <;> exact E_alloc Z38 (fun b => List.Perm.swap _ _ _)
    obtain ⟨u30, rfl⟩ : ∃ i, o1 = some i := Option.isSome_iff_exists.1 (ho1.2 (by decide))
    have hu30 := hc1 _ rfl
    obtain ⟨b9, rfl⟩ : ∃ i, o2 = some i := Option.isSome_iff_exists.1 (ho2.2 (by decide))
    have hb9 := hc2 _ rfl
    clear ho1 ho2 hc1 hc2
    refine J_store (.tmp rfl) (.tmp rfl) (by (try dsimp only) <;> rfl) (by repeat first | exact R1 | apply RT) Lens.id T38.size ?_
    refine J_freezeB (sl := 9) (by repeat first | exact R0 | apply RT) rfl ?_
    refine JN ?_
    refine J_seq ?_
    refine J_draw mix 11 [31, 32, 33, 34, 35, 36, 37, 38, 39, 40, 41] [_, _, _, _, _, _, _, _, _, _, _] rfl rfl (by kernel_rfl) (by kernel_rfl) (by kernel_rfl) (by kernel_rfl) (by kernel_rfl) ⟨QS (Q_move (.tmp rfl)) rfl, QS (Q_move (.tmp rfl)) rfl, QS (Q_move (.tmp rfl)) rfl, QS ((by first | exact Q_idxAddrN Tryz.underlying22 T53.size (.tmp rfl) (.tmp rfl) (by first | omega | simp <;> omega) | exact Q_idxAddr Tryz.underlying22 T53.size (.tmp rfl) (.tmp rfl) (by first | omega | simp <;> omega) (by first | omega | simp <;> omega))) rfl, QS (Q_fieldAddrI F53_0 (by decide) (Lens.fst Lens.id) (.tmp rfl)) rfl, QS (Q_load (.tmp rfl) T3) rfl, QS (Q_move (.tmp rfl)) rfl, QS (Q_move (.tmp rfl)) rfl, QS ((by first | exact Q_idxAddrN Tryz.underlying22 T53.size (.tmp rfl) (.tmp rfl) (by first | omega | simp <;> omega) | exact Q_idxAddr Tryz.underlying22 T53.size (.tmp rfl) (.tmp rfl) (by first | omega | simp <;> omega) (by first | omega | simp <;> omega))) rfl, QS (Q_fieldAddrI F53_1 (by decide) (Lens.snd Lens.id (by first | rfl | (simp only [Enc.size, Nat.zero_add, Nat.mul_one, Nat.add_zero]; omega))) (.tmp rfl)) rfl, QS (Q_load (.tmp rfl) T23) rfl, trivial⟩ ?_
    refine J_call (rPut_v rm.1 rm.2 _ _ ?_ (Nat.le_trans (hdk _ _) ?_)) ⟨(.tmp rfl), (.tmp rfl), (.tmp rfl), trivial⟩ (Split.take (by repeat first | exact R0 | apply RT) Split.nil) rfl (fun r42 hr42 => ?_)
    · exact (by first | omega | simp <;> omega)
    · exact (by first | omega | simp <;> omega)
    refine JNR ?_
    refine JM rfl rfl ?_
    refine JQ (Q_load (.tmp rfl) T38) rfl ?_
    refine JQ (Q_buildSlice (α := (Arr 20 UInt8)) E38 Tryz.underlying29 [.tmp 44] [_] rfl rfl ⟨(.tmp rfl), trivial⟩ (Nat.le_of_ble_eq_true rfl)) rfl ?_
    refine J_append (α := (Arr 20 UInt8)) E38 Tryz.underlying29 (.tmp rfl) (.tmp rfl) (by repeat first | exact R0 | apply RT) (by first | omega | (simp; omega)) (by first | (simp only [maxLen]; omega) | (simp [maxLen]; omega)) rfl (fun v46 => ?_)
    refine JA rfl rfl ?_
    refine J_nil ?_
    refine J_blk_normal ?_
    refine J_then_normal ?_
    refine J_region ?_
    refine JM rfl rfl ?_
    refine JQ (Q_addi (.tmp rfl) At.int (by first | omega | simp <;> omega) (by first | omega | simp <;> omega)) rfl ?_
    refine JA rfl rfl ?_
    refine JN ?_
    refine J_back ((k + 1, r42.1, v46)) ?_ ?_ ?_ ?_
    · exact ⟨⟨by omega, by omega⟩, by simp only; omega⟩
    · exact ⟨fe rfl (by first | rfl | exact vint_eq (by first | omega | simp <;> omega) | exact vsl_eq (by simp) | exact vstr_eq (by simp)), fe rfl (by first | rfl | exact vint_eq (by first | omega | simp <;> omega) | exact vsl_eq (by simp) | exact vstr_eq (by simp)), trivial⟩
    · exact ⟨rfl, rfl, rfl, rfl, rfl, rfl, trivial⟩
    · exact (Has.take (Repl.map (by repeat first | exact R0 | apply RT) (by exact (madeM_s (by first | omega | simp <;> omega)).symm)) (Has.take (Repl.box (by repeat first | exact R0 | apply RT) (by first | rfl | simp)) (Has.take (Repl.row (by repeat first | exact R0 | apply RT) (by exact (madeIds_s (by first | omega | simp <;> omega)).symm)) Has.nil)))
  try simp only [BS, ne_eq] at h0
  refine J_exit ?_
  refine J_then_exit ?_
  refine J_then_exit ?_
  refine J_blk_out ?_
  refine J_then_normal ?_
  refine JSR ?_
  refine J_freezeR (sl := 7) (by repeat first | exact R0 | apply RT) rfl ?_
  refine JM rfl rfl ?_
  refine JM rfl rfl ?_
  refine JM rfl rfl ?_
  refine JA rfl rfl ?_
  refine JA rfl rfl ?_
  refine JA rfl rfl ?_
  refine JN ?_
  refine J_retc ?_
  obtain hke : k = l.length := (by first | omega | simp <;> omega)
  rw [hke, List.take_length]
  exact J_ret3 rfl (ResAt.tmp rfl) (ResAt.tmp rfl) (ResAt.tmp rfl) (b10, b12, rm) trivial (Split.take (by repeat first | exact R0 | apply RT) (Split.take (by repeat first | exact R0 | apply RT) Split.nil)) imp_refl
end Go.Sep
namespace Go.Sep
open Go Go.Proofs
open Enc (V)
section
variable {G : Oid → Option (List Oid)} {t b z : Oid} {l : List Oid}
structure Star (G : Oid → Option (List Oid)) (t b z : Oid) : Prop where
  ht : ∃ l, G t = some l ∧ ∀ y, y ∈ l ↔ y = b ∨ y = z
  hb : G b = some []
  hz : G z = none
  tb : t ≠ b
  tz : t ≠ z
  bz : b ≠ z
theorem Star.path (h : Star G t b z) {fr : List Oid} (hf : ∀ x, x ∈ fr → x = t ∨ x = b) : ∀ n x, Path G fr n x → x = t ∨ x = b ∨ x = z
  | 0, x, hp => by rcases hf x hp with h | h <;> simp [h]
  | n + 1, y, ⟨x, l, hp, hg, hy⟩ => by
    obtain ⟨lt, e1, e2⟩ := h.ht
    rcases h.path hf n x hp with rfl | rfl | rfl
    · rw [e1] at hg; obtain rfl := Option.some.inj hg; exact .inr ((e2 y).1 hy)
    · rw [h.hb] at hg; obtain rfl := Option.some.inj hg; cases hy
    · rw [h.hz] at hg; cases hg
theorem Star.reach (h : Star G t b z) {fr : List Oid} (ht : t ∈ fr) (hf : ∀ x, x ∈ fr → x = t ∨ x = b) (x : Oid) : Reach G fr x ↔ x = t ∨ x = b ∨ x = z := by
  constructor
  · rintro ⟨n, hp⟩; exact h.path hf n x hp
  · obtain ⟨lt, e1, e2⟩ := h.ht
    rintro (rfl | rfl | rfl)
    · exact ⟨0, ht⟩
    · exact ⟨1, t, lt, ht, e1, (e2 _).2 (.inl rfl)⟩
    · exact ⟨1, t, lt, ht, e1, (e2 _).2 (.inr rfl)⟩
theorem Star.found (h : Star G t b z) {fr F : List Oid} (ht : t ∈ fr) (hf : ∀ x, x ∈ fr → x = t ∨ x = b) (hF : Found G fr F) : F.length = 2 ∧ t ∈ F ∧ ∀ x, x ∈ F → x = t ∨ x = b := by
  have hm : ∀ x, x ∈ F ↔ x = t ∨ x = b := fun x => by
    rw [hF.2, h.reach ht hf]
    obtain ⟨lt, e1, e2⟩ := h.ht
    constructor
    · rintro ⟨rfl | rfl | rfl, hs⟩
      · exact .inl rfl
      · exact .inr rfl
      · rw [h.hz] at hs; cases hs
    · rintro (rfl | rfl)
      · exact ⟨.inl rfl, by rw [e1]; rfl⟩
      · exact ⟨.inr (.inl rfl), by rw [h.hb]; rfl⟩
  refine ⟨?_, (hm t).2 (.inl rfl), fun x hx => (hm x).1 hx⟩
  have h1 := nodup_len_le (m := [t, b]) hF.1.nodup fun x hx => by have := (hm x).1 hx; simpa using this
  have h2 := nodup_len_le (l := [t, b]) (m := F) (by simp [h.tb]) fun x hx => (hm x).2 (by simpa using hx)
  simp at h1 h2; omega
theorem Rising.one {L : List Oid} (hr : Rising L) (hm : ∀ x, x ∈ L ↔ x = z) : L = [z] := hr.ext (List.pairwise_singleton _ _) fun x => by rw [hm]; simp
theorem Star.gone (h : Star G t b z) {fr L : List Oid} (ht : t ∈ fr) (hf : ∀ x, x ∈ fr → x = t ∨ x = b) (hL : Gone G fr L) : L = [z] := by
  refine hL.1.one fun x => ?_
  rw [hL.2, h.reach ht hf]
  obtain ⟨lt, e1, e2⟩ := h.ht
  constructor
  · rintro ⟨rfl | rfl | rfl, hs⟩
    · rw [e1] at hs; cases hs
    · rw [h.hb] at hs; cases hs
    · rfl
  · rintro rfl; exact ⟨.inr (.inr rfl), h.hz⟩
theorem Star.walk {m : Objs} {q : List Oid × List Oid × Int} (h : Star (egM m) t b z) (hw : WalkP m [t] 10 q) : q.2.2 = 0 ∧ q.1.length = 2 ∧ t ∈ q.1 ∧ (∀ x, x ∈ q.1 → x = t ∨ x = b) ∧ q.2.1 = [z] := by
  obtain ⟨F, L, hF, hL, rfl⟩ := hw
  obtain ⟨a1, a2, a3⟩ := h.found (by simp) (by simp) hF
  have b1 := h.gone (by simp) (by simp) hL
  unfold walkR
  rw [a1, if_neg (by decide)]
  exact ⟨rfl, a1, a2, a3, b1⟩
theorem Star.promised {m : Objs} {P : List Oid} (h : Star (egM m) t b z) (hp : PromisedP m [t] P) : P = [z] := by
  refine hp.1.one fun x => ?_
  rw [hp.2]
  obtain ⟨lt, e1, e2⟩ := h.ht
  constructor
  · rintro ⟨y, hy, h1, h2⟩
    simp only [List.mem_singleton] at hy; subst hy
    rw [e1] at h1
    rcases (e2 x).1 h1 with rfl | rfl
    · rw [h.hb] at h2; cases h2
    · rfl
  · rintro rfl; exact ⟨t, by simp, by rw [e1]; exact (e2 _).2 (.inr rfl), h.hz⟩
theorem Star.open {m : Objs} {fr : List Oid} {c : Bool} (h : Star (egM m) t b z) (ht : t ∈ fr) (hf : ∀ x, x ∈ fr → x = t ∨ x = b) (hc : ClosedP m fr [] c) : c = false := by
  obtain ⟨L, hL, hc⟩ := hc
  have := h.gone ht hf hL
  cases c with
  | false => rfl
  | true => subst this; exact absurd (hc.1 rfl z (by simp)) (by simp)
theorem Star.closed {m : Objs} {fr : List Oid} {c : Bool} (h : Star (egM m) t b z) (ht : t ∈ fr) (hf : ∀ x, x ∈ fr → x = t ∨ x = b) (hc : ClosedP m fr [z] c) : c = true := by
  obtain ⟨L, hL, hc⟩ := hc
  have := h.gone ht hf hL
  subst this
  exact hc.2 fun x hx => hx
theorem Star.rank {m : Objs} {far : List (Oid × Int)} (h : Star (egM m) t b z) (hf : FarP m [t] far) : mget far b = some 1 := by
  obtain ⟨gone, hw⟩ := hf
  obtain ⟨lt, e1, e2⟩ := h.ht
  refine (hw.hfar b 1).2 ⟨1, rfl, ⟨⟨t, lt, List.mem_singleton.2 rfl, e1, (e2 _).2 (.inl rfl)⟩, ?_⟩, by rw [h.hb]; rfl⟩
  rintro ⟨k, hk, hp⟩
  obtain rfl : k = 0 := by omega
  exact h.tb (List.mem_singleton.1 hp).symm
end
def kB : Oid := putId 3 [120]
def kE : List Ent := [(33188, ⟨[102]⟩, kB), (33188, ⟨[103]⟩, GoZero.z)]
def kD : Bs := (encTreeB kE).1
def kT : Oid := putId 2 kD
def kM : Objs := putM (putM [] 3 [120]) 2 kD
theorem k_check3 : checkB 3 [120] = 0 := by decide +kernel
theorem k_check2 : checkB 2 kD = 0 := by decide +kernel
theorem k_raw3 : rawEdges 3 [120] = [] := by decide +kernel
theorem k_raw2 : rawEdges 2 kD = [kB, GoZero.z] := by decide +kernel
theorem k_tb : kT ≠ kB := by decide +kernel
theorem k_tz : kT ≠ GoZero.z := by decide +kernel
theorem k_bz : kB ≠ GoZero.z := by decide +kernel
theorem kM_eq : kM = [(kB, 3, [120]), (kT, 2, kD)] := by
  have e1 : kB = sha1 (canonB 3 [120]) := by unfold kB putId; rw [if_pos k_check3]
  have e2 : kT = sha1 (canonB 2 kD) := by unfold kT putId; rw [if_pos k_check2]
  unfold kM putM
  rw [if_pos k_check3, if_pos k_check2, ← e1, ← e2]
  simp only [mset]
  rw [if_neg k_tb]
theorem kStar : Star (egM kM) kT kB GoZero.z where
  ht := ⟨edgesB 2 kD, by rw [kM_eq]; unfold egM; simp only [mget]; rw [if_neg k_tb]; simp only [if_true]; rw [if_pos k_check2], fun y => by unfold edgesB; rw [sortO_mem, k_raw2]; simp⟩
  hb := by
    rw [kM_eq]; unfold egM; simp only [mget, if_true]; rw [if_pos k_check3]
    congr 1
    apply List.eq_nil_iff_forall_not_mem.2
    intro x hx
    unfold edgesB at hx
    rw [sortO_mem, k_raw3] at hx; cases hx
  hz := by rw [kM_eq]; unfold egM; simp only [mget]; rw [if_neg (fun e => k_bz e.symm), if_neg (fun e => k_tz e.symm)]
  tb := k_tb
  tz := k_tz
  bz := k_bz
end Go.Sep
namespace Go.Sep
open Go Go.Proofs
open Enc (V)
theorem kFits : Fits kM := by
  intro k x h
  rw [kM_eq] at h
  simp only [mget] at h
  split at h
  · obtain rfl := Option.some.inj h; simp
  · split at h
    · obtain rfl := Option.some.inj h; have := check_len k_check2; simp only; omega
    · cases h
theorem kM_len : kM.length ≤ 1048576 := by rw [kM_eq]; simp
theorem kE_len : ∀ e ∈ kE, e.2.1.l.length ≤ 1048576 := by intro e he; simp [kE] at he; rcases he with rfl | rfl <;> simp
theorem k_open {fr : List Oid} (ht : kT ∈ fr) (hf : ∀ x, x ∈ fr → x = kT ∨ x = kB) : ∀ w T v, (VEx (ClosedP kM fr []) VBool).rep w T v → (VBool false).rep w T v := fun w T v ⟨c, hc, hv⟩ => kStar.open ht hf hc ▸ hv
theorem k_closed {fr : List Oid} (ht : kT ∈ fr) (hf : ∀ x, x ∈ fr → x = kT ∨ x = kB) : ∀ w T v, (VEx (ClosedP kM fr [GoZero.z]) VBool).rep w T v → (VBool true).rep w T v := fun w T v ⟨c, hc, hv⟩ => kStar.closed ht hf hc ▸ hv
attribute [local irreducible] Quiet QStep J At FnX Fn FnP Repl Split Has Post Back GoZ
attribute [local irreducible] putM putId encTreeB kM
set_option maxRecDepth 100000
theorem known_c : FnP Tryz.prog 8 [] (VBool true) := by
  refine FnP_intro (by kernel_rfl) Tryz.func8 rfl Tryz.ntmps8 rfl (fun e => ?_)
  refine JSR ?_
  refine JQ (Q_assign At.bool) rfl ?_
  refine JNSR ?_
  refine J_makeMap (Arr 20 UInt8) (Int × (List UInt8)) rfl (fun b10 => ?_)
  refine JA rfl rfl ?_
  refine JNSR ?_
  refine JM rfl rfl ?_
  refine J_buildRow (α := UInt8) E5 Tryz.underlying23 [.const (.int .u8 120)] [_] rfl rfl ⟨(At.k8 (z := 120) (by decide)), trivial⟩ (Nat.le_of_ble_eq_true rfl) rfl (fun v12 => ?_)
  refine J_convR Tryz.underlying23 (by kernel_rfl) (.tmp rfl) (by repeat first | exact R0 | apply RT) (by simp) rfl ?_
  refine J_freezeRM (sl := 13) (by repeat first | exact R0 | apply RT) rfl ?_
  refine J_call (put_m _ _ _) ⟨(.tmp rfl), At.int, (.tmp rfl), trivial⟩ (Split.take (by repeat first | exact R0 | apply RT) Split.nil) rfl (fun r14 hr14 => ?_)
  refine J_alloc Z38 rfl (fun b2 => ?_)
  refine J_store (.tmp rfl) (.tmp rfl) (by (try dsimp only) <;> rfl) (by repeat first | exact R1 | apply RT) Lens.id T38.size ?_
  refine J_freezeB (sl := 2) (by repeat first | exact R0 | apply RT) rfl ?_
  refine JNSR ?_
  refine JQ (Q_load (.tmp rfl) T38) rfl ?_
  refine JQ (Q_build Z81 T81.agg (by kernel_rfl) (BP.cons PL81_0 (Lens.fst Lens.id) At.int (BP.cons PL81_1 (Lens.snd (Lens.fst Lens.id) (by first | rfl | (simp only [Enc.size, Nat.zero_add, Nat.mul_one, Nat.add_zero]; omega))) (At.toStr At.str) (BP.cons PL81_2 (Lens.snd (Lens.snd Lens.id (by first | rfl | (simp only [Enc.size, Nat.zero_add, Nat.mul_one, Nat.add_zero]; omega))) (by first | rfl | (simp only [Enc.size, Nat.zero_add, Nat.mul_one, Nat.add_zero]; omega))) (.tmp rfl) BP.nil)))) rfl ?_
  refine JQ (Q_build Z81 T81.agg (by kernel_rfl) (BP.cons PL81_0 (Lens.fst Lens.id) At.int (BP.cons PL81_1 (Lens.snd (Lens.fst Lens.id) (by first | rfl | (simp only [Enc.size, Nat.zero_add, Nat.mul_one, Nat.add_zero]; omega))) (At.toStr At.str) BP.nil))) rfl ?_
  refine JQ (Q_buildSlice (α := (Int × Str × (Arr 20 UInt8))) E81 Tryz.underlying82 [.tmp 17, .tmp 18] [_, _] rfl rfl ⟨(.tmp rfl), (.tmp rfl), trivial⟩ (Nat.le_of_ble_eq_true rfl)) rfl ?_
  refine JQ (Q_call (rEncTree_c kE kE_len) ⟨(.tmp rfl), trivial⟩) rfl ?_
  refine JM rfl rfl ?_
  refine JQ (Q_extract (.tmp rfl) rfl) rfl ?_
  refine JQ (Q_extract (.tmp rfl) rfl) rfl ?_
  refine JA rfl rfl ?_
  refine JA rfl rfl ?_
  refine JNSR ?_
  refine JM rfl rfl ?_
  refine JM rfl rfl ?_
  refine J_call (put_m _ _ _) ⟨(.tmp rfl), At.int, (.tmp rfl), trivial⟩ (Split.take (by repeat first | exact R0 | apply RT) Split.nil) rfl (fun r25 hr25 => ?_)
  refine J_alloc Z38 rfl (fun b5 => ?_)
  refine J_store (.tmp rfl) (.tmp rfl) (by (try dsimp only) <;> rfl) (by repeat first | exact R1 | apply RT) Lens.id T38.size ?_
  refine J_freezeB (sl := 5) (by repeat first | exact R0 | apply RT) rfl ?_
  refine JN ?_
  refine J_seq ?_
  refine J_freezeM (t := 1) (m := kM) rfl (Repl.map (by repeat first | exact R0 | apply RT) (by unfold kM kD; rfl)) ?_
  refine J_region ?_
  refine JM rfl rfl ?_
  refine JQ (Q_mkIface (by kernel_rfl) (.tmp rfl)) rfl ?_
  refine JQ (Q_load (.tmp rfl) T38) rfl ?_
  refine JQ (Q_buildSlice (α := (Arr 20 UInt8)) E38 Tryz.underlying29 [.tmp 29] [_] rfl rfl ⟨(.tmp rfl), trivial⟩ (Nat.le_of_ble_eq_true rfl)) rfl ?_
  refine J_call (rwalk_c kM [kT] 10 kFits kM_len (by simp)) ⟨(.tmp rfl), (.tmp rfl), At.int, trivial⟩ Split.nil rfl (fun r31 hr31 => ?_)
  obtain ⟨w1, w2, w3, w4, w5⟩ := kStar.walk hr31
  obtain ⟨F, L, x⟩ := r31
  dsimp only at w1 w2 w3 w4 w5
  subst w5
  refine JM rfl rfl ?_
  refine JQ (Q_extract (.tmp rfl) rfl) rfl ?_
  refine JQ (Q_extract (.tmp rfl) rfl) rfl ?_
  refine JQ (Q_extract (.tmp rfl) rfl) rfl ?_
  refine JA rfl rfl ?_
  refine JA rfl rfl ?_
  refine JA rfl rfl ?_
  refine JNSR ?_
  refine JM rfl rfl ?_
  refine JQ (Q_mkIface (by kernel_rfl) (.tmp rfl)) rfl ?_
  refine JQ (Q_load (.tmp rfl) T38) rfl ?_
  refine JQ (Q_buildSlice (α := (Arr 20 UInt8)) E38 Tryz.underlying29 [.tmp 37] [_] rfl rfl ⟨(.tmp rfl), trivial⟩ (Nat.le_of_ble_eq_true rfl)) rfl ?_
  refine J_call (promised_c kM [kT] kFits kM_len (by simp)) ⟨(.tmp rfl), (.tmp rfl), trivial⟩ Split.nil rfl (fun r39 hr39 => ?_)
  obtain rfl := kStar.promised hr39
  refine JA rfl rfl ?_
  refine JN ?_
  refine J_seq ?_
  refine J_draw mix 49 [40, 41, 42, 43, 44, 45, 46, 47, 48, 49, 50, 51, 52, 53, 54, 55, 56, 57, 58, 59, 60, 61, 62, 63, 64, 65, 66, 67, 68, 69, 70, 71, 72, 73, 74, 75, 76, 77, 78, 79, 80, 81, 82, 83, 84, 85, 86, 87, 0] [_, _, _, _, _, _, _, _, _, _, _, _, _, _, _, _, _, _, _, _, _, _, _, _, _, _, _, _, _, _, _, _, _, _, _, _, _, _, _, _, _, _, _, _, _, _, _, _, _] rfl rfl (by kernel_rfl) (by kernel_rfl) (by kernel_rfl) (by kernel_rfl) (by kernel_rfl) ⟨QS (Q_move (.tmp rfl)) rfl, QS (Q_eql (.tmp rfl) At.int) rfl, QS (Q_move (.tmp rfl)) rfl, QG rfl rfl rfl rfl rfl opt_bool (fun hg => Q_move (.tmp rfl)), QG rfl rfl rfl rfl rfl opt_bool (fun hg => (by have hg0 := hg; simp only [BS, ne_eq] at hg0; exact Q_len Tryz.underlying29 rfl (At.opt rfl (by first | exact hg | (simp only [BS, ne_eq] at hg ⊢; first | exact hg | simp_all))))), QG rfl rfl rfl rfl rfl opt_bool (fun hg => (by have hg0 := hg; simp only [BS, ne_eq] at hg0; exact Q_eql (At.opt rfl (by first | exact hg | (simp only [BS, ne_eq] at hg ⊢; first | exact hg | simp_all))) At.int)), QS (Q_andB (.tmp rfl) (fun hb => At.opt rfl (by simp only [BS, ne_eq] at hb ⊢; first | exact hb | simp_all))) rfl, QS (Q_move (.tmp rfl)) rfl, QG rfl rfl rfl rfl rfl opt_bool (fun hg => Q_move (.tmp rfl)), QG rfl rfl rfl rfl rfl opt_bool (fun hg => (by have hg0 := hg; simp only [BS, ne_eq] at hg0; exact Q_len Tryz.underlying29 rfl (At.opt rfl (by first | exact hg | (simp only [BS, ne_eq] at hg ⊢; first | exact hg | simp_all))))), QG rfl rfl rfl rfl rfl opt_bool (fun hg => (by have hg0 := hg; simp only [BS, ne_eq] at hg0; exact Q_eql (At.opt rfl (by first | exact hg | (simp only [BS, ne_eq] at hg ⊢; first | exact hg | simp_all))) At.int)), QS (Q_andB (.tmp rfl) (fun hb => At.opt rfl (by simp only [BS, ne_eq] at hb ⊢; first | exact hb | simp_all))) rfl, QS (Q_move (.tmp rfl)) rfl, QG rfl rfl rfl rfl rfl opt_bool (fun hg => Q_move (.tmp rfl)), QG rfl rfl rfl rfl rfl opt_bool (fun hg => (by have hg0 := hg; simp only [BS, ne_eq] at hg0; exact Q_idxAddrZ Tryz.underlying29 T38.size (At.opt rfl (by first | exact hg | (simp only [BS, ne_eq] at hg ⊢; first | exact hg | simp_all))) At.int (by first | omega | simp <;> omega) (by first | omega | simp <;> omega))), QG rfl rfl rfl rfl rfl opt_bool (fun hg => (by have hg0 := hg; simp only [BS, ne_eq] at hg0; exact Q_load (At.opt rfl (by first | exact hg | (simp only [BS, ne_eq] at hg ⊢; first | exact hg | simp_all))) T38)), QG rfl rfl rfl rfl rfl opt_bool (fun hg => Q_build Z38 T38.agg (by kernel_rfl) BP.nil), QG rfl rfl rfl rfl rfl opt_bool (fun hg => (by have hg0 := hg; simp only [BS, ne_eq] at hg0; exact Q_eqlA Tryz.underlying38 Tryz.underlying5 T5.size (by kernel_rfl) (At.opt rfl (by first | exact hg | (simp only [BS, ne_eq] at hg ⊢; first | exact hg | simp_all))) (At.opt rfl (by first | exact hg | (simp only [BS, ne_eq] at hg ⊢; first | exact hg | simp_all))))), QS (Q_andB (.tmp rfl) (fun hb => At.opt rfl (by simp only [BS, ne_eq] at hb ⊢; first | exact hb | simp_all))) rfl, QS (Q_move (.tmp rfl)) rfl, QG rfl rfl rfl rfl rfl opt_bool (fun hg => Q_move (.tmp rfl)), QG rfl rfl rfl rfl rfl opt_bool (fun hg => (by have hg0 := hg; simp only [BS, ne_eq] at hg0; exact Q_len Tryz.underlying29 rfl (At.opt rfl (by first | exact hg | (simp only [BS, ne_eq] at hg ⊢; first | exact hg | simp_all))))), QG rfl rfl rfl rfl rfl opt_bool (fun hg => (by have hg0 := hg; simp only [BS, ne_eq] at hg0; exact Q_eql (At.opt rfl (by first | exact hg | (simp only [BS, ne_eq] at hg ⊢; first | exact hg | simp_all))) At.int)), QS (Q_andB (.tmp rfl) (fun hb => At.opt rfl (by simp only [BS, ne_eq] at hb ⊢; first | exact hb | simp_all))) rfl, QS (Q_move (.tmp rfl)) rfl, QG rfl rfl rfl rfl rfl opt_bool (fun hg => Q_move (.tmp rfl)), QG rfl rfl rfl rfl rfl opt_bool (fun hg => (by have hg0 := hg; simp only [BS, ne_eq] at hg0; exact Q_mkIface (by kernel_rfl) (At.opt rfl (by first | exact hg | (simp only [BS, ne_eq] at hg ⊢; first | exact hg | simp_all))))), QG rfl rfl rfl rfl rfl opt_bool (fun hg => Q_move (.tmp rfl)), QG rfl rfl rfl rfl rfl opt_bool (fun hg => (by have hg0 := hg; simp only [BS, ne_eq] at hg0; exact Quiet.imp (Q_call (xs := [.tmp 66, .tmp 67, .const (.slice none 0 0)]) (Fn.vex (closed_c kM F [] kFits kM_len (by first | omega | simp <;> omega))) ⟨(At.opt rfl hg), (At.opt rfl hg), At.nils, trivial⟩) (k_open w3 w4))), QG rfl rfl rfl rfl rfl opt_bool (fun hg => (by have hg0 := hg; simp only [BS, ne_eq] at hg0; exact Q_not (At.opt rfl (by first | exact hg | (simp only [BS, ne_eq] at hg ⊢; first | exact hg | simp_all))))), QS (Q_andB (.tmp rfl) (fun hb => At.opt rfl (by simp only [BS, ne_eq] at hb ⊢; first | exact hb | simp_all))) rfl, QS (Q_move (.tmp rfl)) rfl, QG rfl rfl rfl rfl rfl opt_bool (fun hg => Q_move (.tmp rfl)), QG rfl rfl rfl rfl rfl opt_bool (fun hg => (by have hg0 := hg; simp only [BS, ne_eq] at hg0; exact Q_mkIface (by kernel_rfl) (At.opt rfl (by first | exact hg | (simp only [BS, ne_eq] at hg ⊢; first | exact hg | simp_all))))), QG rfl rfl rfl rfl rfl opt_bool (fun hg => Q_move (.tmp rfl)), QG rfl rfl rfl rfl rfl opt_bool (fun hg => Q_move (.tmp rfl)), QG rfl rfl rfl rfl rfl opt_bool (fun hg => (by have hg0 := hg; simp only [BS, ne_eq] at hg0; exact Quiet.imp (Q_call (xs := [.tmp 73, .tmp 74, .tmp 75]) (Fn.vex (closed_c kM F [GoZero.z] kFits kM_len (by first | omega | simp <;> omega))) ⟨(At.opt rfl hg), (At.opt rfl hg), (At.opt rfl hg), trivial⟩) (k_closed w3 w4))), QS (Q_andB (.tmp rfl) (fun hb => At.opt rfl (by simp only [BS, ne_eq] at hb ⊢; first | exact hb | simp_all))) rfl, QS (Q_move (.tmp rfl)) rfl, QG rfl rfl rfl rfl rfl opt_bool (fun hg => Q_move (.tmp rfl)), QG rfl rfl rfl rfl rfl opt_bool (fun hg => (by have hg0 := hg; simp only [BS, ne_eq] at hg0; exact Q_mkIface (by kernel_rfl) (At.opt rfl (by first | exact hg | (simp only [BS, ne_eq] at hg ⊢; first | exact hg | simp_all))))), QG rfl rfl rfl rfl rfl opt_bool (fun hg => Q_load (.tmp rfl) T38), QG rfl rfl rfl rfl rfl opt_bool (fun hg => (by have hg0 := hg; simp only [BS, ne_eq] at hg0; exact Q_buildSlice (α := (Arr 20 UInt8)) E38 Tryz.underlying29 [.tmp 81] [_] rfl rfl ⟨(At.opt rfl (by first | exact hg | (simp only [BS, ne_eq] at hg ⊢; first | exact hg | simp_all))), trivial⟩ (Nat.le_of_ble_eq_true rfl))), QG rfl rfl rfl rfl rfl opt_bool (fun hg => (by have hg0 := hg; simp only [BS, ne_eq] at hg0; exact Q_call (xs := [.tmp 80, .tmp 82]) (Fn.mapTo (ranks_c kM [kT] kFits kM_len (by simp))) ⟨(At.opt rfl hg), (At.opt rfl hg), trivial⟩)), QG rfl rfl rfl rfl rfl opt_bool (fun hg => Q_load (.tmp rfl) T38), QG rfl rfl rfl rfl rfl opt_bool (fun hg => by exact Q_lookupE (κ := Oid) (β := Int) (r := 1) (zv := 0) Tryz.underlying40 KT38 Z3 (At.opt rfl hg) (At.opt rfl hg) (fun m ⟨_, hm⟩ => by show (mget m kB).getD 0 = 1; rw [show mget m kB = some 1 from kStar.rank hm]; rfl)), QG rfl rfl rfl rfl rfl opt_bool (fun hg => (by have hg0 := hg; simp only [BS, ne_eq] at hg0; exact Q_eql (At.opt rfl (by first | exact hg | (simp only [BS, ne_eq] at hg ⊢; first | exact hg | simp_all))) At.int)), QS (Q_andB (.tmp rfl) (fun hb => At.opt rfl (by simp only [BS, ne_eq] at hb ⊢; first | exact hb | simp_all))) rfl, QS (Q_assign (.tmp rfl)) rfl, trivial⟩ ?_
  refine JN ?_
  refine J_retc ?_
  exact J_ret1 rfl (ResAt.tmp rfl) () trivial Split.nil (imp_eq (congrArg VBool (by simp [w1, w2])))
end Go.Sep
