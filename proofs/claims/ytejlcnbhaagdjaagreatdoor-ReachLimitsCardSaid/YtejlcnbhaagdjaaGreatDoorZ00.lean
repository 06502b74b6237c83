/- Lemmas for the statement below: steps of the walk. Conditions: none of their own. -/
import Derived.WalkKit
import Derived.Great.Frames
import Derived.WalkLawsBesides
import Derived.Laws.AppendOwnNone
import Derived.Great.BuildSlice
import Derived.Orders
import Derived.BigCall
import Derived.Lib.Bytealg
import Derived.Maps.RangeRun
import Derived.MapKept
import Derived.WideKeyRuns
import Derived.Lib.AppendZerosOnto
set_option linter.unusedSimpArgs false
set_option linter.unusedVariables false
set_option linter.unusedSectionVars false
namespace Go.Sep
open Go
def Keeps (w : World) (T : Nat → Prop) (w' : World) (T' : Nat → Prop) : Prop :=
  ∀ b, b < w.heap.size → ¬ T b → ¬ T' b ∧ w'.heap[b]? = w.heap[b]?
structure VP where
  rep : World → (Nat → Prop) → Value → Prop
  mono : ∀ {w T w' T' v}, rep w T v → Keeps w T w' T' → rep w' T' v
structure CP where
  rep : World → (Nat → Prop) → List Value → Prop
  mono : ∀ {w T w' T' v}, rep w T v → Keeps w T w' T' → rep w' T' v
structure Res where
  foot : List Nat
  holds : World → (Nat → Prop) → Prop
  lt : ∀ {w T}, holds w T → ∀ b, b ∈ foot → b < w.heap.size
  mono : ∀ {w T w' T'}, holds w T → (∀ b, b < w.heap.size → (b ∈ foot ∨ ¬ T b) → w'.heap[b]? = w.heap[b]?) →
    (∀ b, b < w.heap.size → ¬ T b → ¬ T' b) → holds w' T'
structure Ext (M : List Nat) (w w' : World) : Prop where
  os : w'.os = w.os
  tape : w'.tape = w.tape
  output : w'.output = w.output
  size : w.heap.size ≤ w'.heap.size
  block : ∀ b, b < w.heap.size → b ∉ M → w'.heap[b]? = w.heap[b]?
theorem Ext.refl (M : List Nat) (w : World) : Ext M w w := ⟨rfl, rfl, rfl, Nat.le_refl _, fun _ _ _ => rfl⟩
theorem Ext.drew (M : List Nat) (w : World) : Ext M w w.drew := ⟨rfl, rfl, rfl, Nat.le_refl _, fun _ _ _ => rfl⟩
theorem Ext.trans {M : List Nat} {a b c : World} (h : Ext M a b) (k : Ext M b c) : Ext M a c :=
  ⟨k.os.trans h.os, k.tape.trans h.tape, k.output.trans h.output, Nat.le_trans h.size k.size,
   fun i hi hm => (k.block i (Nat.lt_of_lt_of_le hi h.size) hm).trans (h.block i hi hm)⟩
theorem Ext.trans_new {M N : List Nat} {a b c : World} (h : Ext M a b) (k : Ext N b c) (hn : ∀ x, x ∈ N → x ∈ M ∨ a.heap.size ≤ x) : Ext M a c :=
  ⟨k.os.trans h.os, k.tape.trans h.tape, k.output.trans h.output, Nat.le_trans h.size k.size,
   fun i hi hm => (k.block i (Nat.lt_of_lt_of_le hi h.size) (fun hi' => (hn i hi').elim hm (fun h => by omega))).trans (h.block i hi hm)⟩
theorem Ext.alloc (M : List Nat) (w : World) (o : Obj) : Ext M w (w.alloc o) :=
  ⟨rfl, rfl, rfl, by simp, fun b hb _ => heap_alloc_old w o hb⟩
theorem Ext.keeps {M : List Nat} {w w' : World} (h : Ext M w w') {T T' : Nat → Prop} (hM : ∀ b, b ∈ M → T b) (hT : ∀ b, b < w.heap.size → ¬ T b → ¬ T' b) : Keeps w T w' T' :=
  fun b hb hT' => ⟨hT b hb hT', h.block b hb (fun hm => hT' (hM b hm))⟩
def Reads (w : World) (g off : Nat) (l : List Value) : Prop := ∀ j u, l[j]? = some u → w.cell? ⟨g, off + j, none⟩ = some u
theorem Reads.of_block {w w' : World} {g off : Nat} {l : List Value} (h : Reads w g off l) (hb : w'.heap[g]? = w.heap[g]?) : Reads w' g off l :=
  fun j u hj => (World.cell?_of_block (a := ⟨g, off + j, none⟩) hb).trans (h j u hj)
theorem Keeps.get {w w' : World} {T T' : Nat → Prop} (hk : Keeps w T w' T') {g : Nat} (hg : g < w.heap.size) (ht : ¬ T g) : ¬ T' g ∧ g < w'.heap.size ∧ w'.heap[g]? = w.heap[g]? := by
  obtain ⟨h1, h2⟩ := hk g hg ht
  refine ⟨h1, ?_, h2⟩
  have : w.heap[g]? = some w.heap[g] := Array.getElem?_eq_getElem hg
  rw [this] at h2
  exact (Array.getElem?_eq_some_iff.1 h2).1
def pow10s : List Nat := [1, 10, 100, 1000, 10000, 100000, 1000000, 10000000, 100000000, 1000000000, 10000000000, 100000000000, 1000000000000, 10000000000000, 100000000000000, 1000000000000000, 10000000000000000, 100000000000000000, 1000000000000000000, 10000000000000000000]
def deBruijn64s : List Nat := [0, 1, 56, 2, 57, 49, 28, 3, 61, 58, 42, 50, 38, 29, 17, 4, 62, 47, 59, 36, 45, 43, 51, 22, 53, 39, 33, 30, 24, 18, 12, 5, 63, 55, 48, 27, 60, 41, 37, 16, 46, 35, 44, 21, 52, 32, 23, 11, 54, 26, 40, 15, 34, 20, 31, 10, 25, 14, 19, 9, 13, 8, 7, 6]
def deBruijn32s : List Nat := [0, 1, 28, 2, 29, 14, 24, 3, 30, 22, 20, 15, 25, 17, 4, 8, 31, 27, 13, 23, 21, 19, 16, 7, 26, 12, 18, 6, 11, 5, 10, 9]
def tableOf (s : String) : Option (List Value) :=
  if s = "internal/strconv.uint64pow10" then some (pow10s.map fun (n : Nat) => .int .u64 (n : Int))
  else if s = "math/bits.deBruijn64tab" then some (deBruijn64s.map fun (n : Nat) => .int .u8 (n : Int))
  else if s = "math/bits.deBruijn32tab" then some (deBruijn32s.map fun (n : Nat) => .int .u8 (n : Int))
  else none
def KP (P : Program) (w : World) (T : Nat → Prop) : Prop :=
  ∀ (g : Nat) (G : Global) (l : List Value), P.globals[g]? = some G → tableOf G.name = some l → ¬ T g ∧ g < w.heap.size ∧ ∃ (el : TypeId) (fr : Nat × Nat), w.heap[g]? = some (.cells l.toArray el fr)
theorem KP.mono {P : Program} {w : World} {T : Nat → Prop} {w' : World} {T' : Nat → Prop} (h : KP P w T) (hk : Keeps w T w' T') : KP P w' T' := by
  intro g G l hg hl
  obtain ⟨h1, h2, el, fr, h3⟩ := h g G l hg hl
  obtain ⟨k1, k2, k3⟩ := hk.get h2 h1
  exact ⟨k1, k2, el, fr, k3.trans h3⟩
def KPV (P : Program) : VP := ⟨fun w T _ => KP P w T, fun h hk => KP.mono h hk⟩
abbrev Ctx := List (Nat × VP)
def find : Ctx → Nat → Option VP
  | [], _ => none
  | (k, X) :: G, t => bif Nat.beq k t then some X else find G t
def feet (S : List Res) : List Nat := S.flatMap Res.foot
@[simp] theorem feet_nil : feet [] = [] := rfl
@[simp] theorem feet_cons (r : Res) (S : List Res) : feet (r :: S) = r.foot ++ feet S := rfl
@[simp] theorem feet_append (S S' : List Res) : feet (S ++ S') = feet S ++ feet S' := by simp [feet]
structure Env (P : Program) where
  w0 : World
  T0 : Nat → Prop
  M : List Nat
  t0 : ∀ b, T0 b → b < w0.heap.size ∧ b ∉ M
def TT {P : Program} (e : Env P) (S : List Res) : Nat → Prop := fun b => e.T0 b ∨ b ∈ feet S
structure Holds {P : Program} (n : Nat) (e : Env P) (G : Ctx) (S : List Res) (a : Act) (w : World) : Prop where
  size : a.tmps.size = n
  defers : a.defers = []
  slots : ∀ t X, find G t = some X → X.rep w (TT e S) (a.tmps.getD t undef)
  res : ∀ r, r ∈ S → r.holds w (TT e S)
  nodup : (feet S).Nodup
  own : ∀ b, b ∈ feet S → b ∈ e.M ∨ e.w0.heap.size ≤ b
  ext : Ext e.M e.w0 w
  glob : KP P w (TT e S)
def J {P : Program} (n : Nat) (e : Env P) (G : Ctx) (S : List Res) (K : Act → World → Prop) : Prop := ∀ a w, Holds n e G S a w → K a w
section
variable {P : Program} {n : Nat} {e : Env P} {G : Ctx} {S : List Res} {a : Act} {w : World} {Q : Exit → Act → World → Prop}
theorem Holds.feet_lt (h : Holds n e G S a w) : ∀ b, b ∈ feet S → b < w.heap.size := by
  intro b hb
  obtain ⟨r, hr, hb⟩ := List.mem_flatMap.1 hb
  exact r.lt (h.res r hr) b hb
theorem Holds.T_lt (h : Holds n e G S a w) : ∀ b, TT e S b → b < w.heap.size := by
  intro b hb
  rcases hb with hb | hb
  · exact Nat.lt_of_lt_of_le (e.t0 b hb).1 h.ext.size
  · exact h.feet_lt b hb
theorem Holds.apart (h : Holds n e G S a w) : ∀ b, b ∈ feet S → ¬ e.T0 b := by
  intro b hb ht
  rcases h.own b hb with hm | hm
  · exact (e.t0 b ht).2 hm
  · have := (e.t0 b ht).1; omega
theorem find_cons (k t : Nat) (X : VP) (G : Ctx) : find ((k, X) :: G) t = if k = t then some X else find G t := by
  simp only [find]
  by_cases h : k = t
  · subst h; simp
  · have : Nat.beq k t = false := by rw [Bool.eq_false_iff]; intro hb; exact h (Nat.eq_of_beq_eq_true hb)
    simp [this, h]
theorem put_getD_same (a : Act) (d : Nat) (v : Value) (h : d < a.tmps.size) : (a.put (some d) v).tmps.getD d undef = v :=
  Act.eval_put_same a d v h
theorem put_getD_ne (a : Act) (d j : Nat) (v : Value) (h : d ≠ j) : (a.put (some d) v).tmps.getD j undef = a.tmps.getD j undef :=
  Act.eval_put_ne a d j v h
theorem Holds.quiet (h : Holds n e G S a w) {w' : World} {v : Value} {d : Nat} {X : VP} (hx : Ext [] w w') (hv : X.rep w' (TT e S) v) (hd : d < n) :
    Holds n e ((d, X) :: G) S (a.put (some d) v) w' := by
  have hk : Keeps w (TT e S) w' (TT e S) := hx.keeps (by simp) (fun _ _ h => h)
  refine ⟨by rw [Act.size_put]; exact h.size, by rw [Act.defers_put']; exact h.defers, ?_, ?_, h.nodup, h.own, h.ext.trans_new hx (by simp), KP.mono h.glob hk⟩
  · intro t Y hf
    rw [find_cons] at hf
    by_cases ht : d = t
    · subst ht
      rw [if_pos rfl] at hf
      obtain rfl := Option.some.inj hf
      rw [put_getD_same a d v (by rw [h.size]; exact hd)]
      exact hv
    · rw [if_neg ht] at hf
      rw [put_getD_ne a d t v ht]
      exact Y.mono (h.slots t Y hf) hk
  · intro r hr
    exact r.mono (h.res r hr) (fun b hb _ => hx.block b hb (by simp)) (fun _ _ h => h)
theorem Holds.quiet0 (h : Holds n e G S a w) {w' : World} (hx : Ext [] w w') : Holds n e G S a w' := by
  have hk : Keeps w (TT e S) w' (TT e S) := hx.keeps (by simp) (fun _ _ h => h)
  exact ⟨h.size, h.defers, fun t Y hf => Y.mono (h.slots t Y hf) hk,
    fun r hr => r.mono (h.res r hr) (fun b hb _ => hx.block b hb (by simp)) (fun _ _ h => h), h.nodup, h.own, h.ext.trans_new hx (by simp), KP.mono h.glob hk⟩
theorem Holds.drew (h : Holds n e G S a w) : Holds n e G S a w.drew := h.quiet0 (Ext.drew [] w)
theorem Holds.also (h : Holds n e G S a w) {t : Nat} {X Y : VP} (hf : find G t = some X) (hxy : ∀ w T v, X.rep w T v → Y.rep w T v) : Holds n e ((t, Y) :: G) S a w := by
  refine ⟨h.size, h.defers, ?_, h.res, h.nodup, h.own, h.ext, h.glob⟩
  intro t' Z hz
  rw [find_cons] at hz
  by_cases ht : t = t'
  · subst ht
    rw [if_pos rfl] at hz
    obtain rfl := Option.some.inj hz
    exact hxy _ _ _ (h.slots t X hf)
  · rw [if_neg ht] at hz
    exact h.slots t' Z hz
def At (G : Ctx) (x : Operand) (X : VP) : Prop :=
  ∀ (a : Act) (w : World) (T : Nat → Prop), (∀ t Y, find G t = some Y → Y.rep w T (a.tmps.getD t undef)) → X.rep w T (a.eval x)
theorem At.tmp {t : Nat} {X : VP} (h : find G t = some X) : At G (.tmp t) X := fun _ _ _ hs => hs t X h
theorem At.rep {x : Operand} {X : VP} (h : At G x X) (hh : Holds n e G S a w) : X.rep w (TT e S) (a.eval x) := h a w _ hh.slots
theorem At.imp {x : Operand} {X Y : VP} (h : At G x X) (hxy : ∀ w T v, X.rep w T v → Y.rep w T v) : At G x Y := fun a w T hs => hxy _ _ _ (h a w T hs)
def Is (v : Value) : VP := ⟨fun _ _ v' => v' = v, fun h _ => h⟩
def VInt (k : IntKind) (x : Int) : VP := Is (.int k x)
def VBool (b : Bool) : VP := Is (.bool b)
def Any : VP := ⟨fun _ _ _ => True, fun h _ => h⟩
def VEx {α : Type} (p : α → Prop) (X : α → VP) : VP := ⟨fun w T v => ∃ x, p x ∧ (X x).rep w T v, fun ⟨x, hp, h⟩ hk => ⟨x, hp, (X x).mono h hk⟩⟩
def Opt (g : Bool) (X : VP) : VP := ⟨fun w T v => (g = true → X.rep w T v) ∧ (g = false → v = undef), fun h hk => ⟨fun hg => X.mono (h.1 hg) hk, h.2⟩⟩
theorem At.const {v : Value} : At G (.const v) (Is v) := fun _ _ _ _ => rfl
theorem At.int {k : IntKind} {x : Int} : At G (.const (.int k x)) (VInt k x) := fun _ _ _ _ => rfl
theorem At.bool {b : Bool} : At G (.const (.bool b)) (VBool b) := fun _ _ _ _ => rfl
theorem At.func {f : FuncId} : At G (.func f) (Is (.func (.func f) #[] #[])) := fun _ _ _ _ => rfl
theorem At.global {g : Nat} : At G (.global g) (Is (.pointer (some ⟨g, 0, none⟩))) := fun _ _ _ _ => rfl
theorem J.mono {K K' : Act → World → Prop} (h : J n e G S K) (hk : ∀ a w, K a w → K' a w) : J n e G S K' := fun a w hh => hk a w (h a w hh)
theorem J_seq {x y : Code} (h : J n e G S (x.wp P (Exit.then (y.wp P Q) Q))) : J n e G S ((Code.seq x y).wp P Q) := fun a w hh => wp_seq (h a w hh)
theorem J_skip (h : J n e G S (Q .normal)) : J n e G S (Code.skip.wp P Q) := fun a w hh => wp_skip (h a w hh)
theorem J_exit {id : Nat} (h : J n e G S (Q (.exit id))) : J n e G S ((Code.exit id).wp P Q) := fun a w hh => wp_exit (h a w hh)
theorem J_retc (h : J n e G S (Q .ret)) : J n e G S (Code.ret.wp P Q) := fun a w hh => wp_ret (h a w hh)
theorem J_block {id : Nat} {c : Code} (h : J n e G S (c.wp P (Exit.inBlock id Q))) : J n e G S ((Code.block id c).wp P Q) := fun a w hh => wp_block (h a w hh)
theorem J_region {id : Nat} {l : List Oper} (h : J n e G S (wpList P l.toArray Q l)) : J n e G S ((Code.region id l.toArray false).wp P Q) :=
  fun a w hh => wp_region_lit (h a w hh)
theorem J_nil {ops : Array Oper} (h : J n e G S (Q .normal)) : J n e G S (wpList P ops Q []) := fun a w hh => wpList_nil (h a w hh)
theorem J_then_normal {K : Act → World → Prop} (h : J n e G S K) : J n e G S (Exit.then K Q .normal) := h
theorem J_then_exit {K : Act → World → Prop} {id : Nat} (h : J n e G S (Q (.exit id))) : J n e G S (Exit.then K Q (.exit id)) := h
theorem J_then_ret {K : Act → World → Prop} (h : J n e G S (Q .ret)) : J n e G S (Exit.then K Q .ret) := h
theorem J_blk_normal {id : Nat} (h : J n e G S (Q .normal)) : J n e G S (Exit.inBlock id Q .normal) := h
theorem J_blk_ret {id : Nat} (h : J n e G S (Q .ret)) : J n e G S (Exit.inBlock id Q .ret) := h
theorem J_blk_out {id : Nat} (h : J n e G S (Q .normal)) : J n e G S (Exit.inBlock id Q (.exit id)) := fun a w hh => by
  simp only [Exit.inBlock, if_true]; exact h a w hh
theorem J_blk_by {id id' : Nat} (hne : (id' == id) = false) (h : J n e G S (Q (.exit id'))) : J n e G S (Exit.inBlock id Q (.exit id')) := fun a w hh => by
  have : id' ≠ id := by simpa using hne
  simp only [Exit.inBlock, if_neg this]; exact h a w hh
theorem J_cond {c : Operand} {b : Bool} {x y : Code} (hc : At G c (VBool b)) (h1 : b = true → J n e G S (x.wp P Q)) (h2 : b = false → J n e G S (y.wp P Q)) :
    J n e G S ((Code.cond c x y).wp P Q) := fun a w hh =>
  wp_cond_split (t := b) (hc.rep hh) (fun hb => h1 hb a w hh) (fun hb => h2 hb a w hh)
def Sub (G' G : Ctx) : Prop := ∀ t X, find G' t = some X → find G t = some X
theorem Sub.nil : Sub [] G := fun _ _ h => by simp [find] at h
theorem Sub.cons {t : Nat} {X : VP} {G' : Ctx} (h : find G t = some X) (hs : Sub G' G) : Sub ((t, X) :: G') G := by
  intro t' Y hf
  rw [find_cons] at hf
  by_cases ht : t = t'
  · subst ht; rw [if_pos rfl] at hf; rw [← hf]; exact h
  · rw [if_neg ht] at hf; exact hs t' Y hf
theorem J_weak {G' : Ctx} {K : Act → World → Prop} (hs : Sub G' G) (h : J n e G' S K) : J n e G S K :=
  fun a w hh => h a w ⟨hh.size, hh.defers, fun t X hf => hh.slots t X (hs t X hf), hh.res, hh.nodup, hh.own, hh.ext, hh.glob⟩
theorem J_conv {G' : Ctx} {K : Act → World → Prop} (hs : ∀ t X, find G' t = some X → ∃ Y, find G t = some Y ∧ ∀ w T v, Y.rep w T v → X.rep w T v) (h : J n e G' S K) : J n e G S K :=
  fun a w hh => h a w ⟨hh.size, hh.defers, fun t X hf => let ⟨_, hy, hi⟩ := hs t X hf; hi _ _ _ (hh.slots t _ hy), hh.res, hh.nodup, hh.own, hh.ext, hh.glob⟩
def drop (ws : List Nat) : Ctx → Ctx
  | [] => []
  | (k, X) :: G => bif ws.any (Nat.beq k) then drop ws G else (k, X) :: drop ws G
theorem J_loop {c : Code} {ι : Type} (p : ι → Prop) (GG : ι → Ctx) (SS : ι → List Res) (μ : ι → Nat) (i0 : ι) (h0 : p i0)
    (hG : ∀ K, J n e (GG i0) (SS i0) K → J n e G S K)
    (round : ∀ i, p i → J n e (GG i) (SS i) (c.wp P (Exit.then (fun a w => ∃ j, p j ∧ μ j < μ i ∧ Holds n e (GG j) (SS j) a w) Q))) :
    J n e G S ((Code.loop c).wp P Q) := by
  refine hG _ ?_
  intro a w hh b k cs
  have key : ∀ m i, μ i = m → p i → ∀ a w, Holds n e (GG i) (SS i) a w →
      ∃ ex a' w', Q ex a' w' ∧ Arrives P (lone (b.at a (.code c :: .inLoop c :: k)) cs w) b k cs ex a' w' := by
    intro m
    induction m using Nat.strongRecOn with
    | _ m ih =>
      intro i hm hp a w hh
      obtain ⟨ex, a₁, w₁, hq, harr⟩ := round i hp a w hh b (.inLoop c :: k) cs
      cases ex with
      | normal =>
        obtain ⟨j, hj, hlt, hh'⟩ := hq
        obtain ⟨e₂, a₂, w₂, hq₂, harr₂⟩ := ih (μ j) (hm ▸ hlt) j rfl hj a₁ w₁ hh'
        exact ⟨e₂, a₂, w₂, hq₂, .of_steps (Steps.trans harr (.one step_inLoop)) harr₂⟩
      | exit id => exact ⟨_, a₁, w₁, hq, .pass (x := .inLoop c) rfl (fun _ _ => .inl (by simp)) harr⟩
      | goto l => exact ⟨_, a₁, w₁, hq, .pass (x := .inLoop c) rfl (fun _ _ => .inl (by simp)) harr⟩
      | ret => exact ⟨_, a₁, w₁, hq, .pass (x := .inLoop c) rfl (fun _ _ => .inl (by simp)) harr⟩
      | panic ch => exact ⟨_, a₁, w₁, hq, .pass (x := .inLoop c) rfl (fun _ _ => .inl (by simp)) harr⟩
      | outgrown => exact ⟨_, a₁, w₁, hq, .pass (x := .inLoop c) rfl (fun _ _ => .inl (by simp)) harr⟩
  obtain ⟨ex, a', w', hq, harr⟩ := key _ i0 rfl h0 a w hh
  exact ⟨ex, a', w', hq, .of_steps (.one step_loop) harr⟩
end
end Go.Sep
namespace Go.Sep
open Go
theorem beq_dec {α : Type} [BEq α] [LawfulBEq α] [DecidableEq α] (a b : α) : (a == b) = decide (a = b) := by by_cases h : a = b <;> simp [h]
section
variable {P : Program} {n : Nat} {e : Env P} {G : Ctx} {S : List Res} {Q : Exit → Act → World → Prop}
def Quiet (P : Program) (n : Nat) (e : Env P) (G : Ctx) (S : List Res) (o : Oper) (X : VP) : Prop :=
  ∀ a w, Holds n e G S a w → ∀ (K : Act → World → Prop) (Q : Exit → Act → World → Prop),
    (∀ v w', Ext [] w w' → X.rep w' (TT e S) v → K (a.put o.dst v) w') → o.wp P a w K Q
theorem Quiet.imp {o : Oper} {X Y : VP} (h : Quiet P n e G S o X) (hxy : ∀ w T v, X.rep w T v → Y.rep w T v) : Quiet P n e G S o Y :=
  fun a w hh K Q hK => h a w hh K Q fun v w' hx hv => hK v w' hx (hxy _ _ _ hv)
theorem Q_of_run {o : Oper} {X : VP} (h : ∀ a w, Holds n e G S a w → ∃ v w', (execOp a.eval o).run P w = .ok (.value v) w' ∧ Ext [] w w' ∧ X.rep w' (TT e S) v) :
    Quiet P n e G S o X := by
  intro a w hh K Q hK
  obtain ⟨v, w', hr, hx, hv⟩ := h a w hh
  unfold Oper.wp
  rw [hr]
  exact hK v w' hx hv
theorem J_quiet {ops : Array Oper} {rest : List Oper} {o : Oper} {X : VP} {d : Nat} (hq : Quiet P n e G S o X) (hg : o.guard = none) (hd : o.dst = some d) (hlt : Nat.blt d n = true)
    (h : J n e ((d, X) :: G) S (wpList P ops Q rest)) : J n e G S (wpList P ops Q (o :: rest)) := by
  intro a w hh
  have hlt' : d < n := by simpa [Nat.blt_eq] using hlt
  refine wpList_plain hg fun K hK => hq a w hh K Q fun v w' hx hv => hK _ _ ?_
  rw [hd]
  exact h _ _ (hh.quiet hx hv hlt')
theorem yielded_of {ops : Array Oper} {a : Act} {j : Nat} {oj : Oper} {dj : Nat} (hj : ops[j]? = some oj) (hdj : oj.dst = some dj) (hs : dj < a.tmps.size) :
    yielded ops a.tmps j = (match a.tmps.getD dj undef with | .bool b => some b | _ => none) := by
  have h1 : a.tmps[dj]? = some (a.tmps.getD dj undef) := by simp [Array.getD, hs]
  simp only [yielded, hj, Option.bind_some, hdj]
  simp [Array.getD, hs]
  split <;> simp_all
theorem opt_bool {b : Bool} : ∀ (w : World) (T : Nat → Prop) (v : Value), (VBool b).rep w T v → (Opt true (VBool b)).rep w T v := fun _ _ _ h => ⟨fun _ => h, fun h => (by cases h)⟩
theorem opt_opt {g : Bool} {X : VP} : ∀ (w : World) (T : Nat → Prop) (v : Value), (Opt g X).rep w T v → (Opt g X).rep w T v := fun _ _ _ h => h
theorem Q_move {d : Option Tmp} {x : Operand} {ty : TypeId} {pos : String} {af : Array Edge} {g : Option (Nat × Bool)} {X : VP} (hx : At G x X) :
    Quiet P n e G S ⟨d, .move x, ty, pos, af, g⟩ X :=
  Q_of_run fun _ w hh => ⟨_, w, rfl, Ext.refl _ _, hx.rep hh⟩
theorem Q_assign {d : Option Tmp} {x : Operand} {ty : TypeId} {pos : String} {af : Array Edge} {g : Option (Nat × Bool)} {X : VP} (hx : At G x X) :
    Quiet P n e G S ⟨d, .assign x, ty, pos, af, g⟩ X :=
  Q_of_run fun _ w hh => ⟨_, w, rfl, Ext.refl _ _, hx.rep hh⟩
theorem Q_pick {d : Option Tmp} {c x y : Operand} {ty : TypeId} {pos : String} {af : Array Edge} {g : Option (Nat × Bool)} {b : Bool} {X : VP}
    (hc : At G c (VBool b)) (hx : b = true → At G x X) (hy : b = false → At G y X) :
    Quiet P n e G S ⟨d, .pick c x y, ty, pos, af, g⟩ X :=
  Q_of_run fun a w hh => by
    have h1 : a.eval c = .bool b := hc.rep hh
    cases b with
    | true => exact ⟨a.eval x, w, by simp [execOp, h1, asBool], Ext.refl _ _, (hx rfl).rep hh⟩
    | false => exact ⟨a.eval y, w, by simp [execOp, h1, asBool], Ext.refl _ _, (hy rfl).rep hh⟩
theorem At.opt {t : Nat} {g : Bool} {X : VP} (h : find G t = some (Opt g X)) (hg : g = true) : At G (.tmp t) X := fun _ _ _ hs => (hs t _ h).1 hg
theorem Q_bin {d : Option Tmp} {op : BinOp} {t t2 : TypeId} {x y : Operand} {ty : TypeId} {pos : String} {af : Array Edge} {g : Option (Nat × Bool)} {X Y Z : VP}
    (hx : At G x X) (hy : At G y Y)
    (h : ∀ w T u v, X.rep w T u → Y.rep w T v → ∃ r, (eqGuard op t x y u v).run P w = .ok () w ∧ (binOp op t u v).run P w = .ok r w ∧ Z.rep w T r) :
    Quiet P n e G S ⟨d, .binOp op t x y t2, ty, pos, af, g⟩ Z :=
  Q_of_run fun a w hh => by
    obtain ⟨r, h1, h2, h3⟩ := h w _ _ _ (hx.rep hh) (hy.rep hh)
    refine ⟨r, w, ?_, Ext.refl _ _, h3⟩
    simp [execOp, Sem.run_bind, h1, h2]
theorem Q_int {d : Option Tmp} {op : BinOp} {t t2 : TypeId} {x y : Operand} {ty : TypeId} {pos : String} {af : Array Edge} {g : Option (Nat × Bool)} {k k' : IntKind} {u v : Int} {r : Value}
    (hx : At G x (VInt k u)) (hy : At G y (VInt k' v)) (hg : ∀ w, (eqGuard op t x y (.int k u) (.int k' v)).run P w = .ok () w) (hr : ∀ w, (binOp op t (.int k u) (.int k' v)).run P w = .ok r w) :
    Quiet P n e G S ⟨d, .binOp op t x y t2, ty, pos, af, g⟩ (Is r) :=
  Q_bin hx hy fun w T a b ha hb => by
    obtain rfl : a = .int k u := ha
    obtain rfl : b = .int k' v := hb
    exact ⟨r, hg w, hr w, rfl⟩
theorem eqGuard_int (op : BinOp) (t : TypeId) (x y : Operand) (k k' : IntKind) (u v : Int) (w : World) : (eqGuard op t x y (.int k u) (.int k' v)).run P w = .ok () w := by
  unfold eqGuard; cases op <;> simp
theorem eqGuard_string (op : BinOp) (t : TypeId) (x y : Operand) (u v : ByteArray) (w : World) : (eqGuard op t x y (.string u) (.string v)).run P w = .ok () w := by
  unfold eqGuard; cases op <;> simp
section ints
variable {d : Option Tmp} {t t2 : TypeId} {x y : Operand} {ty : TypeId} {pos : String} {af : Array Edge} {g : Option (Nat × Bool)} {k k' : IntKind} {u v : Int}
theorem Q_add (hx : At G x (VInt k u)) (hy : At G y (VInt k v)) : Quiet P n e G S ⟨d, .binOp .add t x y t2, ty, pos, af, g⟩ (VInt k (k.wrap (u + v))) :=
  Q_int hx hy (eqGuard_int _ _ _ _ _ _ _ _) fun w => by simp [binOp, Op.intArith]
theorem Q_sub (hx : At G x (VInt k u)) (hy : At G y (VInt k v)) : Quiet P n e G S ⟨d, .binOp .sub t x y t2, ty, pos, af, g⟩ (VInt k (k.wrap (u - v))) :=
  Q_int hx hy (eqGuard_int _ _ _ _ _ _ _ _) fun w => by simp [binOp, Op.intArith]
theorem Q_mul (hx : At G x (VInt k u)) (hy : At G y (VInt k v)) : Quiet P n e G S ⟨d, .binOp .mul t x y t2, ty, pos, af, g⟩ (VInt k (k.wrap (u * v))) :=
  Q_int hx hy (eqGuard_int _ _ _ _ _ _ _ _) fun w => by simp [binOp, Op.intArith]
theorem Q_quo (hx : At G x (VInt k u)) (hy : At G y (VInt k v)) (hv : v ≠ 0) : Quiet P n e G S ⟨d, .binOp .quo t x y t2, ty, pos, af, g⟩ (VInt k (k.wrap (u.tdiv v))) :=
  Q_int hx hy (eqGuard_int _ _ _ _ _ _ _ _) fun w => by simp [binOp, Op.intDiv, hv]
theorem Q_rem (hx : At G x (VInt k u)) (hy : At G y (VInt k v)) (hv : v ≠ 0) : Quiet P n e G S ⟨d, .binOp .rem t x y t2, ty, pos, af, g⟩ (VInt k (u.tmod v)) :=
  Q_int hx hy (eqGuard_int _ _ _ _ _ _ _ _) fun w => by simp [binOp, Op.intDiv, hv]
def bitAnd (k : IntKind) (u v : Int) : Int := k.wrap (BitVec.ofInt k.bits u &&& BitVec.ofInt k.bits v).toNat
def bitOr (k : IntKind) (u v : Int) : Int := k.wrap (BitVec.ofInt k.bits u ||| BitVec.ofInt k.bits v).toNat
def bitXor (k : IntKind) (u v : Int) : Int := k.wrap (BitVec.ofInt k.bits u ^^^ BitVec.ofInt k.bits v).toNat
theorem Q_and (hx : At G x (VInt k u)) (hy : At G y (VInt k v)) : Quiet P n e G S ⟨d, .binOp .and t x y t2, ty, pos, af, g⟩ (VInt k (bitAnd k u v)) :=
  Q_int hx hy (eqGuard_int _ _ _ _ _ _ _ _) fun w => by simp only [binOp, ne_eq, not_true, if_false, Op.intBits, bitAnd]; simp
theorem Q_or (hx : At G x (VInt k u)) (hy : At G y (VInt k v)) : Quiet P n e G S ⟨d, .binOp .or t x y t2, ty, pos, af, g⟩ (VInt k (bitOr k u v)) :=
  Q_int hx hy (eqGuard_int _ _ _ _ _ _ _ _) fun w => by simp only [binOp, ne_eq, not_true, if_false, Op.intBits, bitOr]; simp
theorem Q_xor (hx : At G x (VInt k u)) (hy : At G y (VInt k v)) : Quiet P n e G S ⟨d, .binOp .xor t x y t2, ty, pos, af, g⟩ (VInt k (bitXor k u v)) :=
  Q_int hx hy (eqGuard_int _ _ _ _ _ _ _ _) fun w => by simp only [binOp, ne_eq, not_true, if_false, Op.intBits, bitXor]; simp
def shlK (k : IntKind) (u v : Int) : Int := k.wrap (u * 2 ^ (min v.toNat k.bits))
def shrK (k : IntKind) (u v : Int) : Int := u.fdiv (2 ^ (min v.toNat k.bits))
theorem Q_shl (hx : At G x (VInt k u)) (hy : At G y (VInt k' v)) (hv : 0 ≤ v) : Quiet P n e G S ⟨d, .binOp .shl t x y t2, ty, pos, af, g⟩ (VInt k (shlK k u v)) :=
  Q_int hx hy (eqGuard_int _ _ _ _ _ _ _ _) fun w => by
    have : ¬ v < 0 := by omega
    simp only [binOp, Op.shift, if_neg this, shlK]; simp
theorem Q_shr (hx : At G x (VInt k u)) (hy : At G y (VInt k' v)) (hv : 0 ≤ v) : Quiet P n e G S ⟨d, .binOp .shr t x y t2, ty, pos, af, g⟩ (VInt k (shrK k u v)) :=
  Q_int hx hy (eqGuard_int _ _ _ _ _ _ _ _) fun w => by
    have : ¬ v < 0 := by omega
    simp only [binOp, Op.shift, if_neg this, shrK]; simp
theorem Q_eql (hx : At G x (VInt k u)) (hy : At G y (VInt k v)) : Quiet P n e G S ⟨d, .binOp .eql t x y t2, ty, pos, af, g⟩ (VBool (decide (u = v))) :=
  Q_int hx hy (eqGuard_int _ _ _ _ _ _ _ _) fun w => by simp [binOp, Op.intCmp, beq_dec]
theorem Q_neq (hx : At G x (VInt k u)) (hy : At G y (VInt k v)) : Quiet P n e G S ⟨d, .binOp .neq t x y t2, ty, pos, af, g⟩ (VBool (decide (u ≠ v))) :=
  Q_int hx hy (eqGuard_int _ _ _ _ _ _ _ _) fun w => by simp [binOp, Op.intCmp, bne, beq_dec]
theorem Q_lss (hx : At G x (VInt k u)) (hy : At G y (VInt k v)) : Quiet P n e G S ⟨d, .binOp .lss t x y t2, ty, pos, af, g⟩ (VBool (decide (u < v))) :=
  Q_int hx hy (eqGuard_int _ _ _ _ _ _ _ _) fun w => by simp [binOp, Op.intCmp]
theorem Q_leq (hx : At G x (VInt k u)) (hy : At G y (VInt k v)) : Quiet P n e G S ⟨d, .binOp .leq t x y t2, ty, pos, af, g⟩ (VBool (decide (u ≤ v))) :=
  Q_int hx hy (eqGuard_int _ _ _ _ _ _ _ _) fun w => by simp [binOp, Op.intCmp]
theorem Q_gtr (hx : At G x (VInt k u)) (hy : At G y (VInt k v)) : Quiet P n e G S ⟨d, .binOp .gtr t x y t2, ty, pos, af, g⟩ (VBool (decide (v < u))) :=
  Q_int hx hy (eqGuard_int _ _ _ _ _ _ _ _) fun w => by simp [binOp, Op.intCmp]
theorem Q_geq (hx : At G x (VInt k u)) (hy : At G y (VInt k v)) : Quiet P n e G S ⟨d, .binOp .geq t x y t2, ty, pos, af, g⟩ (VBool (decide (v ≤ u))) :=
  Q_int hx hy (eqGuard_int _ _ _ _ _ _ _ _) fun w => by simp [binOp, Op.intCmp]
theorem wrap_i64 {z : Int} (h1 : -9223372036854775808 ≤ z) (h2 : z ≤ 9223372036854775807) : IntKind.i64.wrap z = z := IntWalk.i64_in z ⟨h1, h2⟩
theorem Q_addi (hx : At G x (VInt .i64 u)) (hy : At G y (VInt .i64 v)) (h1 : -9223372036854775808 ≤ u + v) (h2 : u + v ≤ 9223372036854775807) :
    Quiet P n e G S ⟨d, .binOp .add t x y t2, ty, pos, af, g⟩ (VInt .i64 (u + v)) := by
  have := Q_add (P := P) (n := n) (e := e) (S := S) (d := d) (t := t) (t2 := t2) (ty := ty) (pos := pos) (af := af) (g := g) hx hy
  rwa [wrap_i64 h1 h2] at this
theorem Q_subi (hx : At G x (VInt .i64 u)) (hy : At G y (VInt .i64 v)) (h1 : -9223372036854775808 ≤ u - v) (h2 : u - v ≤ 9223372036854775807) :
    Quiet P n e G S ⟨d, .binOp .sub t x y t2, ty, pos, af, g⟩ (VInt .i64 (u - v)) := by
  have := Q_sub (P := P) (n := n) (e := e) (S := S) (d := d) (t := t) (t2 := t2) (ty := ty) (pos := pos) (af := af) (g := g) hx hy
  rwa [wrap_i64 h1 h2] at this
theorem Q_muli (hx : At G x (VInt .i64 u)) (hy : At G y (VInt .i64 v)) (h1 : -9223372036854775808 ≤ u * v) (h2 : u * v ≤ 9223372036854775807) :
    Quiet P n e G S ⟨d, .binOp .mul t x y t2, ty, pos, af, g⟩ (VInt .i64 (u * v)) := by
  have := Q_mul (P := P) (n := n) (e := e) (S := S) (d := d) (t := t) (t2 := t2) (ty := ty) (pos := pos) (af := af) (g := g) hx hy
  rwa [wrap_i64 h1 h2] at this
theorem Q_quoi (hx : At G x (VInt .i64 u)) (hy : At G y (VInt .i64 v)) (hu : 0 ≤ u) (hu' : u ≤ 9223372036854775807) (hv : 0 < v) :
    Quiet P n e G S ⟨d, .binOp .quo t x y t2, ty, pos, af, g⟩ (VInt .i64 (u / v)) := by
  have := Q_quo (P := P) (n := n) (e := e) (S := S) (d := d) (t := t) (t2 := t2) (ty := ty) (pos := pos) (af := af) (g := g) hx hy (by omega)
  have h0 : 0 ≤ u / v := Int.ediv_nonneg hu (by omega)
  have h1 : u / v ≤ u := Int.ediv_le_self v hu
  rw [Int.tdiv_eq_ediv_of_nonneg hu, wrap_i64 (by omega) (by omega)] at this
  exact this
theorem Q_remi (hx : At G x (VInt k u)) (hy : At G y (VInt k v)) (hu : 0 ≤ u) (hv : 0 < v) :
    Quiet P n e G S ⟨d, .binOp .rem t x y t2, ty, pos, af, g⟩ (VInt k (u % v)) := by
  have := Q_rem (P := P) (n := n) (e := e) (S := S) (d := d) (t := t) (t2 := t2) (ty := ty) (pos := pos) (af := af) (g := g) hx hy (by omega)
  rwa [Int.tmod_eq_emod_of_nonneg hu] at this
end ints
section bools
variable {d : Option Tmp} {t t2 : TypeId} {x y : Operand} {ty : TypeId} {pos : String} {af : Array Edge} {g : Option (Nat × Bool)} {u v : Bool}
theorem Q_not (hx : At G x (VBool u)) : Quiet P n e G S ⟨d, .unOp .not t x, ty, pos, af, g⟩ (VBool (!u)) :=
  Q_of_run fun a w hh => by
    have h1 : a.eval x = .bool u := hx.rep hh
    exact ⟨_, w, by simp [execOp, h1, Op.unary], Ext.refl _ _, rfl⟩
end bools
section unary
variable {d : Option Tmp} {t : TypeId} {x : Operand} {ty : TypeId} {pos : String} {af : Array Edge} {g : Option (Nat × Bool)} {k : IntKind} {u : Int}
theorem Q_neg (hx : At G x (VInt k u)) : Quiet P n e G S ⟨d, .unOp .neg t x, ty, pos, af, g⟩ (VInt k (k.wrap (0 - u))) :=
  Q_of_run fun a w hh => by
    have h1 : a.eval x = .int k u := hx.rep hh
    exact ⟨_, w, by simp [execOp, h1, Op.unary, Op.intArith]; rfl, Ext.refl _ _, by simp [VInt, Is]⟩
def bitNot (k : IntKind) (u : Int) : Int := bitXor k (if k.signed then -1 else k.max) u
theorem Q_xor1 (hx : At G x (VInt k u)) : Quiet P n e G S ⟨d, .unOp .xor t x, ty, pos, af, g⟩ (VInt k (bitNot k u)) :=
  Q_of_run fun a w hh => by
    have h1 : a.eval x = .int k u := hx.rep hh
    exact ⟨_, w, by simp only [execOp, h1, Op.unary, Op.intBits]; simp; rfl, Ext.refl _ _, rfl⟩
theorem Q_convi {src dst : TypeId} {k' : IntKind} (hx : At G x (VInt k u)) (hs : (P.underlying src).isSome = true) (hd : P.underlying dst = some (.int k')) :
    Quiet P n e G S ⟨d, .convert src dst x, ty, pos, af, g⟩ (VInt k' (k'.wrap u)) :=
  Q_of_run fun a w hh => by
    have h1 : a.eval x = .int k u := hx.rep hh
    refine ⟨.int k' (k'.wrap u), w, ?_, Ext.refl _ _, rfl⟩
    obtain ⟨ds, hds⟩ := Option.isSome_iff_exists.1 hs
    simp only [execOp, h1, convert, Sem.run_bind, run_underlying hds, run_underlying hd, Result.andThen_ok]
    cases ds <;> simp [Conv.intToInt]
theorem Q_conv64 {src dst : TypeId} (hx : At G x (VInt k u)) (hs : (P.underlying src).isSome = true) (hd : P.underlying dst = some (.int .i64)) (h1 : -9223372036854775808 ≤ u) (h2 : u ≤ 9223372036854775807) :
    Quiet P n e G S ⟨d, .convert src dst x, ty, pos, af, g⟩ (VInt .i64 u) := by
  have := Q_convi (P := P) (n := n) (e := e) (S := S) (d := d) (ty := ty) (pos := pos) (af := af) (g := g) hx hs hd
  rwa [wrap_i64 h1 h2] at this
end unary
def VTup (l : List VP) : VP := ⟨fun w T v => ∃ vs : List Value, v = .tuple vs.toArray ∧ vs.length = l.length ∧ ∀ (i : Nat) (X : VP) (u : Value), l[i]? = some X → vs[i]? = some u → X.rep w T u,
  fun ⟨vs, h1, h2, h3⟩ hk => ⟨vs, h1, h2, fun i X u hx hu => X.mono (h3 i X u hx hu) hk⟩⟩
theorem Q_extract {d : Option Tmp} {x : Operand} {i : Nat} {ty : TypeId} {pos : String} {af : Array Edge} {g : Option (Nat × Bool)} {l : List VP} {X : VP} (hx : At G x (VTup l)) (hi : l[i]? = some X) :
    Quiet P n e G S ⟨d, .extract x i, ty, pos, af, g⟩ X :=
  Q_of_run fun a w hh => by
    obtain ⟨vs, h1, h2, h3⟩ := hx.rep hh
    have hlt : i < vs.length := by rw [h2]; exact (List.getElem?_eq_some_iff.1 hi).1
    have hv : vs[i]? = some vs[i] := List.getElem?_eq_getElem hlt
    refine ⟨vs[i], w, ?_, Ext.refl _ _, h3 i X _ hi hv⟩
    simp [execOp, h1, Instr.extract, hv]
abbrev Bytes := List UInt8
def bs (l : Bytes) : ByteArray := ⟨l.toArray⟩
def VStr (l : Bytes) : VP := Is (.string ⟨l.toArray⟩)
theorem At.str {l : Bytes} : At G (.const (.string ⟨l.toArray⟩)) (VStr l) := fun _ _ _ _ => rfl
theorem bs_toList (l : Bytes) : (bs l).toList = l := by rw [ByteArray.toList_eq]; simp [bs]
theorem bs_toList' (l : Bytes) : ByteArray.toList ⟨l.toArray⟩ = l := bs_toList l
theorem bs_size (l : Bytes) : (bs l).size = l.length := by simp [bs, ByteArray.size]
theorem bs_append (a b : Bytes) : bs a ++ bs b = bs (a ++ b) := by
  apply ByteArray.ext
  simp [bs]
theorem bs_extract (l : Bytes) (i j : Nat) : (bs l).extract i j = bs ((l.take j).drop i) := by
  apply ByteArray.ext
  simp only [ByteArray.data_extract, bs]
  apply Array.toList_inj.1
  simp [List.drop_take]
section strs
variable {d : Option Tmp} {t t2 : TypeId} {x y : Operand} {ty : TypeId} {pos : String} {af : Array Edge} {g : Option (Nat × Bool)} {u v : Bytes}
theorem Q_str {op : BinOp} {r : Value} (hx : At G x (VStr u)) (hy : At G y (VStr v)) (hr : ∀ w, (binOp op t (.string (bs u)) (.string (bs v))).run P w = .ok r w) :
    Quiet P n e G S ⟨d, .binOp op t x y t2, ty, pos, af, g⟩ (Is r) :=
  Q_bin hx hy fun w T a b ha hb => by
    obtain rfl : a = .string (bs u) := ha
    obtain rfl : b = .string (bs v) := hb
    exact ⟨r, eqGuard_string _ _ _ _ _ _ w, hr w, rfl⟩
theorem Q_cat (hx : At G x (VStr u)) (hy : At G y (VStr v)) (hl : u.length + v.length ≤ 9223372036854775807) : Quiet P n e G S ⟨d, .binOp .add t x y t2, ty, pos, af, g⟩ (VStr (u ++ v)) :=
  Q_str hx hy fun w => by
    have h : ¬ (((bs u).size + (bs v).size : Nat) : Int) > IntKind.i64.max := by rw [bs_size, bs_size]; simp [IntKind.max, IntKind.signed, IntKind.bits]; omega
    simp only [binOp, Op.stringOp, if_neg h, bs_append]; rfl
theorem Q_eqls (hx : At G x (VStr u)) (hy : At G y (VStr v)) : Quiet P n e G S ⟨d, .binOp .eql t x y t2, ty, pos, af, g⟩ (VBool (decide (u = v))) :=
  Q_str hx hy fun w => by simp [binOp, Op.stringOp, bs_toList, beq_dec]
theorem Q_neqs (hx : At G x (VStr u)) (hy : At G y (VStr v)) : Quiet P n e G S ⟨d, .binOp .neq t x y t2, ty, pos, af, g⟩ (VBool (decide (u ≠ v))) :=
  Q_str hx hy fun w => by simp [binOp, Op.stringOp, bs_toList, beq_dec]
theorem Q_lsss (hx : At G x (VStr u)) (hy : At G y (VStr v)) : Quiet P n e G S ⟨d, .binOp .lss t x y t2, ty, pos, af, g⟩ (VBool (Op.bytesLess u v)) :=
  Q_str hx hy fun w => by simp [binOp, Op.stringOp, bs_toList]
theorem Q_lens {ats : Array TypeId} (ht : P.underlying t = some .string) (hats : ats[0]? = some t) (hx : At G x (VStr u)) : Quiet P n e G S ⟨d, .call ⟨.builtin .len, #[x], ats⟩, ty, pos, af, g⟩ (VInt .i64 u.length) :=
  Q_of_run fun a w hh => by
    have h1 : a.eval x = .string (bs u) := hx.rep hh
    refine ⟨_, w, ?_, Ext.refl _ _, rfl⟩
    simp [execOp, resolve, invoke, builtin, Builtin.len_, hats, h1, run_underlying ht, goInt, bs_size]
theorem Q_idxs {i : Int} {k : IntKind} (ht : P.underlying t = some .string) (hx : At G x (VStr u)) (hy : At G y (VInt k i)) (h0 : 0 ≤ i) (h1 : i < u.length) :
    Quiet P n e G S ⟨d, .index t x y, ty, pos, af, g⟩ (VInt .u8 ((u.getD i.toNat 0).toNat : Nat)) :=
  Q_of_run fun a w hh => by
    have hx' : a.eval x = .string (bs u) := hx.rep hh
    have hy' : a.eval y = .int k i := hy.rep hh
    have hlt : i.toNat < u.length := by omega
    have hb : (bs u)[i.toNat]? = some (u.getD i.toNat 0) := by
      have hs : i.toNat < (bs u).size := by rw [bs_size]; exact hlt
      rw [getElem?_pos (bs u) i.toNat hs]
      simp [bs, ByteArray.getElem_eq_getElem_data, List.getD, List.getElem?_eq_getElem hlt]
    refine ⟨_, w, ?_, Ext.refl _ _, rfl⟩
    simp only [execOp, hx', hy', Instr.index, asIntOf, Sem.run_bind, Sem.run_pure, Result.andThen_ok, run_underlying ht, if_pos h0, hb]
theorem Q_slices {lo hi : Option Operand} {i j : Int} (ht : P.underlying t = some .string) (hx : At G x (VStr u))
    (hlo : match lo with | none => i = 0 | some l => ∃ k, At G l (VInt k i)) (hhi : match hi with | none => j = u.length | some h => ∃ k, At G h (VInt k j))
    (h0 : 0 ≤ i) (h1 : i ≤ j) (h2 : j ≤ u.length) :
    Quiet P n e G S ⟨d, .slice t x lo hi none, ty, pos, af, g⟩ (VStr ((u.take j.toNat).drop i.toNat)) :=
  Q_of_run fun a w hh => by
    have hx' : a.eval x = .string (bs u) := hx.rep hh
    refine ⟨.string ((bs u).extract i.toNat j.toNat), w, ?_, Ext.refl _ _, by rw [bs_extract]; rfl⟩
    have hb1 : ∀ (k : IntKind) (c : BoundsCode), (Instr.sliceBound (.int k j) (bs u).size c).run P w = .ok j.toNat w := fun k c => run_sliceBound w k j _ c (by omega) (by rw [bs_size]; exact h2)
    have hb0 : ∀ (k : IntKind) (c : BoundsCode), (Instr.sliceBound (.int k i) j.toNat c).run P w = .ok i.toNat w := fun k c => run_sliceBound w k i _ c h0 (by omega)
    cases lo with
    | none =>
      have hi0 : i = 0 := hlo
      subst hi0
      cases hi with
      | none =>
        have hj : j = u.length := hhi
        have he : (bs u).extract 0 u.length = bs u := by rw [bs_extract]; simp
        simp [execOp, hx', Instr.sliceAt, Instr.slice, Instr.sliceBounds, run_underlying ht, hj, bs_size, he]
      | some h =>
        obtain ⟨k, hk⟩ := hhi
        have hk' : a.eval h = .int k j := hk.rep hh
        simp [execOp, hx', hk', Instr.sliceAt, Instr.slice, Instr.sliceBounds, run_underlying ht, hb1]
    | some l =>
      obtain ⟨k, hk⟩ := hlo
      have hk' : a.eval l = .int k i := hk.rep hh
      cases hi with
      | none =>
        have hj : j = u.length := hhi
        have hb0' : ∀ (k : IntKind) (c : BoundsCode), (Instr.sliceBound (.int k i) (bs u).size c).run P w = .ok i.toNat w := fun k c => run_sliceBound w k i _ c h0 (by rw [bs_size]; omega)
        subst hj
        rw [bs_size] at hb0'
        simp [execOp, hx', hk', Instr.sliceAt, Instr.slice, Instr.sliceBounds, run_underlying ht, hb0', bs_size]
      | some h =>
        obtain ⟨k', hkk⟩ := hhi
        have hkk' : a.eval h = .int k' j := hkk.rep hh
        simp [execOp, hx', hk', hkk', Instr.sliceAt, Instr.slice, Instr.sliceBounds, run_underlying ht, hb0, hb1]
end strs
end
end Go.Sep
namespace Go.Sep
open Go
def ofCells : Bool → List Value → Value
  | true, l => .agg l.toArray
  | false, l => l.headD undef
class Enc (α : Type) where
  size : Nat
  agg : Bool
  cp : α → CP
  V : α → VP
  len : ∀ {x w T l}, (cp x).rep w T l → l.length = size
  one : ∀ {x w T l}, (cp x).rep w T l → ∀ v, v ∈ l → v.oneCell' = true
  toV : ∀ {x w T l}, (cp x).rep w T l → (V x).rep w T (ofCells agg l)
  ofV : ∀ {x w T v}, (V x).rep w T v → ∃ l, (cp x).rep w T l ∧ v = ofCells agg l
  nagg : agg = false → size = 1
open Enc (V)
theorem cells_ofCells {α : Type} [Enc α] {x : α} {w : World} {T : Nat → Prop} {l : List Value} (h : (Enc.cp x).rep w T l) : (ofCells (Enc.agg α) l).cells = l.toArray := by
  cases ha : Enc.agg α with
  | true => rfl
  | false =>
    have hl := Enc.len h
    rw [Enc.nagg ha] at hl
    obtain ⟨v, rfl⟩ := List.length_eq_one_iff.1 hl
    have h1 := Enc.one h v (by simp)
    simp only [ofCells, List.headD_cons]
    cases v <;> simp_all [Value.cells, Value.oneCell']
instance encInt : Enc Int where
  size := 1
  agg := false
  cp x := ⟨fun _ _ l => l = [.int .i64 x], fun h _ => h⟩
  V x := VInt .i64 x
  len := fun h => by subst h; rfl
  one := fun hl v hv => by subst hl; simp at hv; subst hv; rfl
  toV := fun h => by subst h; rfl
  ofV := fun h => ⟨_, rfl, h⟩
  nagg := fun _ => rfl
instance encU8 : Enc UInt8 where
  size := 1
  agg := false
  cp x := ⟨fun _ _ l => l = [.int .u8 (x.toNat : Nat)], fun h _ => h⟩
  V x := VInt .u8 (x.toNat : Nat)
  len := fun h => by subst h; rfl
  one := fun hl v hv => by subst hl; simp at hv; subst hv; rfl
  toV := fun h => by subst h; rfl
  ofV := fun h => ⟨_, rfl, h⟩
  nagg := fun _ => rfl
instance encU32 : Enc UInt32 where
  size := 1
  agg := false
  cp x := ⟨fun _ _ l => l = [.int .u32 (x.toNat : Nat)], fun h _ => h⟩
  V x := VInt .u32 (x.toNat : Nat)
  len := fun h => by subst h; rfl
  one := fun hl v hv => by subst hl; simp at hv; subst hv; rfl
  toV := fun h => by subst h; rfl
  ofV := fun h => ⟨_, rfl, h⟩
  nagg := fun _ => rfl
instance encU64 : Enc UInt64 where
  size := 1
  agg := false
  cp x := ⟨fun _ _ l => l = [.int .u64 (x.toNat : Nat)], fun h _ => h⟩
  V x := VInt .u64 (x.toNat : Nat)
  len := fun h => by subst h; rfl
  one := fun hl v hv => by subst hl; simp at hv; subst hv; rfl
  toV := fun h => by subst h; rfl
  ofV := fun h => ⟨_, rfl, h⟩
  nagg := fun _ => rfl
instance encBool : Enc Bool where
  size := 1
  agg := false
  cp x := ⟨fun _ _ l => l = [.bool x], fun h _ => h⟩
  V x := VBool x
  len := fun h => by subst h; rfl
  one := fun hl v hv => by subst hl; simp at hv; subst hv; rfl
  toV := fun h => by subst h; rfl
  ofV := fun h => ⟨_, rfl, h⟩
  nagg := fun _ => rfl
structure Str where
  l : Bytes
  deriving DecidableEq
instance encStr : Enc Str where
  size := 1
  agg := false
  cp x := ⟨fun _ _ l => l = [.string ⟨x.l.toArray⟩], fun h _ => h⟩
  V x := VStr x.l
  len := fun h => by subst h; rfl
  one := fun hl v hv => by subst hl; simp at hv; subst hv; rfl
  toV := fun h => by subst h; rfl
  ofV := fun h => ⟨_, rfl, h⟩
  nagg := fun _ => rfl
structure Exact where
  v : Value
  h : v.oneCell' = true
instance encExact : Enc Exact where
  size := 1
  agg := false
  cp x := ⟨fun _ _ l => l = [x.v], fun h _ => h⟩
  V x := Is x.v
  len := fun h => by subst h; rfl
  one := fun {x _ _ _} hl v hv => by subst hl; simp at hv; subst hv; exact x.h
  toV := fun h => by subst h; rfl
  ofV := fun h => ⟨_, rfl, h⟩
  nagg := fun _ => rfl
def VAgg (c : CP) : VP := ⟨fun w T v => ∃ l, c.rep w T l ∧ v = .agg l.toArray, fun ⟨l, h, hv⟩ hk => ⟨l, c.mono h hk, hv⟩⟩
def cpPair (c d : CP) : CP := ⟨fun w T l => ∃ a b, l = a ++ b ∧ c.rep w T a ∧ d.rep w T b, fun ⟨a, b, h, ha, hb⟩ hk => ⟨a, b, h, c.mono ha hk, d.mono hb hk⟩⟩
instance encProd {α β : Type} [Enc α] [Enc β] : Enc (α × β) where
  size := Enc.size α + Enc.size β
  agg := true
  cp x := cpPair (Enc.cp x.1) (Enc.cp x.2)
  V x := VAgg (cpPair (Enc.cp x.1) (Enc.cp x.2))
  len := fun ⟨a, b, h, ha, hb⟩ => by subst h; rw [List.length_append, Enc.len ha, Enc.len hb]
  one := fun ⟨a, b, h, ha, hb⟩ v hv => by
    subst h
    rcases List.mem_append.1 hv with hv | hv
    · exact Enc.one ha v hv
    · exact Enc.one hb v hv
  toV := fun h => ⟨_, h, rfl⟩
  ofV := fun ⟨l, h, hv⟩ => ⟨l, h, hv⟩
  nagg := fun h => by cases h
def cpl {α : Type} [Enc α] : List α → CP
  | [] => ⟨fun _ _ l => l = [], fun h _ => h⟩
  | x :: xs => cpPair (Enc.cp x) (cpl xs)
theorem cpl_len {α : Type} [Enc α] : ∀ {xs : List α} {w : World} {T : Nat → Prop} {l : List Value}, (cpl xs).rep w T l → l.length = xs.length * Enc.size α
  | [], _, _, _, h => by obtain rfl : _ = [] := h; simp
  | x :: xs, _, _, _, ⟨a, b, h, ha, hb⟩ => by
    subst h; rw [List.length_append, Enc.len ha, cpl_len hb, List.length_cons, Nat.add_mul]; omega
theorem cpl_one {α : Type} [Enc α] : ∀ {xs : List α} {w : World} {T : Nat → Prop} {l : List Value}, (cpl xs).rep w T l → ∀ v, v ∈ l → v.oneCell' = true
  | [], _, _, _, h => by obtain rfl : _ = [] := h; simp
  | x :: xs, _, _, _, ⟨a, b, h, ha, hb⟩ => fun v hv => by
    subst h
    rcases List.mem_append.1 hv with hv | hv
    · exact Enc.one ha v hv
    · exact cpl_one hb v hv
theorem cpl_append {α : Type} [Enc α] : ∀ {xs ys : List α} {w : World} {T : Nat → Prop} {l m : List Value}, (cpl xs).rep w T l → (cpl ys).rep w T m → (cpl (xs ++ ys)).rep w T (l ++ m)
  | [], _, _, _, _, _, h, hm => by obtain rfl : _ = [] := h; exact hm
  | x :: xs, _, _, _, _, _, ⟨a, b, h, ha, hb⟩, hm => ⟨a, _, by subst h; rw [List.append_assoc], ha, cpl_append hb hm⟩
theorem cpl_split {α : Type} [Enc α] : ∀ {xs ys : List α} {w : World} {T : Nat → Prop} {l : List Value}, (cpl (xs ++ ys)).rep w T l →
    (cpl xs).rep w T (l.take (xs.length * Enc.size α)) ∧ (cpl ys).rep w T (l.drop (xs.length * Enc.size α))
  | [], _, _, _, _, h => by simp; exact ⟨rfl, h⟩
  | x :: xs, _, _, _, _, ⟨a, b, h, ha, hb⟩ => by
    subst h
    obtain ⟨h1, h2⟩ := cpl_split hb
    have hl := Enc.len ha
    have e : (x :: xs).length * Enc.size α = a.length + xs.length * Enc.size α := by rw [List.length_cons, Nat.add_mul, hl]; omega
    rw [e]
    refine ⟨⟨a, _, ?_, ha, h1⟩, ?_⟩
    · rw [List.take_length_add_append]
    · rw [List.drop_length_add_append]; exact h2
theorem cpl_take {α : Type} [Enc α] {xs : List α} {w : World} {T : Nat → Prop} {l : List Value} (h : (cpl xs).rep w T l) (k : Nat) (hk : k ≤ xs.length) :
    (cpl (xs.take k)).rep w T (l.take (k * Enc.size α)) ∧ (cpl (xs.drop k)).rep w T (l.drop (k * Enc.size α)) := by
  have := cpl_split (xs := xs.take k) (ys := xs.drop k) (by rw [List.take_append_drop]; exact h)
  rwa [List.length_take, Nat.min_eq_left hk] at this
theorem cpl_get {α : Type} [Enc α] {xs : List α} {w : World} {T : Nat → Prop} {l : List Value} (h : (cpl xs).rep w T l) (i : Nat) (hi : i < xs.length) :
    (Enc.cp xs[i]).rep w T ((l.drop (i * Enc.size α)).take (Enc.size α)) := by
  have h1 := (cpl_take h i (by omega)).2
  rw [List.drop_eq_getElem_cons hi] at h1
  obtain ⟨a, b, he, ha, hb⟩ := h1
  rw [he, ← Enc.len ha, List.take_left]
  exact ha
theorem cpl_set {α : Type} [Enc α] {xs : List α} {y : α} {w : World} {T : Nat → Prop} {l m : List Value} (h : (cpl xs).rep w T l) (hm : (Enc.cp y).rep w T m) (i : Nat) (hi : i < xs.length) :
    (cpl (xs.set i y)).rep w T (l.take (i * Enc.size α) ++ m ++ l.drop (i * Enc.size α + Enc.size α)) := by
  have h1 := (cpl_take h i (by omega)).1
  have h2 := (cpl_take h (i + 1) (by omega)).2
  have e : xs.set i y = xs.take i ++ y :: xs.drop (i + 1) := by rw [List.set_eq_take_append_cons_drop, if_pos hi]
  rw [e, List.append_assoc]
  rw [Nat.add_mul, Nat.one_mul] at h2
  exact cpl_append h1 ⟨m, _, rfl, hm, h2⟩
theorem cpl_single {α : Type} [Enc α] {x : α} {w : World} {T : Nat → Prop} {l : List Value} (h : (Enc.cp x).rep w T l) : (cpl [x]).rep w T l := ⟨l, [], by simp, h, rfl⟩
structure Arr (n : Nat) (β : Type) where
  l : List β
  h : l.length = n
  deriving DecidableEq
theorem Arr.ext' {n : Nat} {β : Type} {a b : Arr n β} (h : a.l = b.l) : a = b := by cases a; cases b; simp at h; subst h; rfl
instance encArr {n : Nat} {β : Type} [Enc β] : Enc (Arr n β) where
  size := n * Enc.size β
  agg := true
  cp x := cpl x.l
  V x := VAgg (cpl x.l)
  len := fun {x _ _ _} h => by rw [cpl_len h, x.h]
  one := fun h => cpl_one h
  toV := fun h => ⟨_, h, rfl⟩
  ofV := fun ⟨l, h, hv⟩ => ⟨l, h, hv⟩
  nagg := fun h => by cases h
def Arr.set {n : Nat} {β : Type} (a : Arr n β) (i : Nat) (y : β) : Arr n β := ⟨a.l.set i y, by rw [List.length_set]; exact a.h⟩
def Arr.get {n : Nat} {β : Type} (a : Arr n β) (i : Nat) (h : i < n) : β := a.l[i]'(by rw [a.h]; exact h)
theorem Reads.sub {w : World} {g off : Nat} {l : List Value} (h : Reads w g off l) (i k : Nat) : Reads w g (off + i) ((l.drop i).take k) := by
  intro j u hj
  rw [Nat.add_assoc]
  refine h (i + j) u ?_
  rw [List.getElem?_take] at hj
  split at hj
  · rwa [List.getElem?_drop] at hj
  · cases hj
theorem Reads.add {w : World} {g off : Nat} {l : List Value} (h : Reads w g off l) : ∀ j u, l[j]? = some u → w.cell? ((⟨g, off, none⟩ : Addr).add j) = some u := by
  intro j u hj
  have hadd : (⟨g, off, none⟩ : Addr).add j = ⟨g, off + j, none⟩ := by unfold Addr.add; split <;> simp_all
  rw [hadd]; exact h j u hj
theorem addr_add (g off j : Nat) : (⟨g, off, none⟩ : Addr).add j = ⟨g, off + j, none⟩ := by unfold Addr.add; split <;> simp_all
def Sl {α : Type} [Enc α] (l : List α) : VP :=
  ⟨fun w T v => ∃ a c xs, v = .slice a l.length c ∧ l.length ≤ c ∧ c ≤ maxLen ∧ (a = none → c = 0) ∧ (cpl l).rep w T xs ∧
      (l ≠ [] → ∃ g off, a = some ⟨g, off, none⟩ ∧ ¬ T g ∧ g < w.heap.size ∧ Reads w g off xs),
   fun ⟨a, c, xs, h1, h2, h3, h4, h5, h6⟩ hk => ⟨a, c, xs, h1, h2, h3, h4, (cpl l).mono h5 hk, fun hn => by
     obtain ⟨g, off, ha, ht, hg, hr⟩ := h6 hn
     obtain ⟨k1, k2, k3⟩ := hk.get hg ht
     exact ⟨g, off, ha, k1, k2, hr.of_block k3⟩⟩⟩
instance encList {α : Type} [Enc α] : Enc (List α) where
  size := 1
  agg := false
  cp x := ⟨fun w T l => ∃ v, l = [v] ∧ (Sl x).rep w T v, fun ⟨v, h, hv⟩ hk => ⟨v, h, (Sl x).mono hv hk⟩⟩
  V x := Sl x
  len := fun ⟨v, h, _⟩ => by subst h; rfl
  one := fun ⟨v, h, hv⟩ u hu => by
    subst h; simp at hu; subst hu
    obtain ⟨a, c, xs, rfl, _⟩ := hv
    rfl
  toV := fun ⟨v, h, hv⟩ => by subst h; exact hv
  ofV := fun {x w T v} h => ⟨[v], ⟨v, rfl, h⟩, rfl⟩
  nagg := fun _ => rfl
theorem Sl_nil {α : Type} [Enc α] (w : World) (T : Nat → Prop) : (Sl ([] : List α)).rep w T (.slice none 0 0) :=
  ⟨none, 0, [], rfl, Nat.le_refl _, Nat.zero_le _, fun _ => rfl, rfl, fun h => absurd rfl h⟩
theorem At.nils {α : Type} [Enc α] {G : Ctx} : At G (.const (.slice none 0 0)) (Sl ([] : List α)) := fun _ w T _ => Sl_nil w T
def PtrTo {α : Type} [Enc α] (x : α) : VP :=
  ⟨fun w T v => ∃ g off l, v = .pointer (some ⟨g, off, none⟩) ∧ ¬ T g ∧ g < w.heap.size ∧ (Enc.cp x).rep w T l ∧ Reads w g off l,
   fun ⟨g, off, l, h1, h2, h3, h4, h5⟩ hk => by
     obtain ⟨k1, k2, k3⟩ := hk.get h3 h2
     exact ⟨g, off, l, h1, k1, k2, (Enc.cp x).mono h4 hk, h5.of_block k3⟩⟩
def aggOf (P : Program) (t : TypeId) : Option Bool :=
  match P.underlying t with
  | some (.struct _) | some (.array _ _) => some true
  | some _ => some false
  | none => none
structure GoT (P : Program) (t : TypeId) (α : Type) [Enc α] : Prop where
  agg : aggOf P t = some (Enc.agg α)
  size : (P.info? t).map (·.size) = some (Enc.size α)
section
variable {P : Program}
theorem run_isAgg {t : TypeId} {b : Bool} (h : aggOf P t = some b) (w : World) : (isAgg t).run P w = .ok b w := by
  unfold aggOf at h
  cases hu : P.underlying t with
  | none => rw [hu] at h; cases h
  | some d =>
    rw [hu] at h
    simp only [isAgg, Sem.run_bind, run_underlying hu, Result.andThen_ok]
    cases d <;> simp at h <;> subst h <;> rfl
theorem run_sizeOf {t : TypeId} {k : Nat} (h : (P.info? t).map (·.size) = some k) (w : World) : (sizeOf t).run P w = .ok k w := by
  cases hi : P.info? t with
  | none => rw [hi] at h; cases h
  | some i =>
    rw [hi] at h
    simp at h
    simp [sizeOf, typeInfo, hi, h]
theorem run_loadVar_cells {α : Type} [Enc α] {t : TypeId} (hT : GoT P t α) {x : α} {w : World} {T : Nat → Prop} {l : List Value} {g off : Nat}
    (hc : (Enc.cp x).rep w T l) (hr : Reads w g off l) : (loadVar t ⟨g, off, none⟩).run P w = .ok (ofCells (Enc.agg α) l) w := by
  have hl := Enc.len hc
  unfold loadVar
  rw [Sem.run_bind, run_isAgg hT.agg]
  cases ha : Enc.agg α with
  | true =>
    have h1 : (loadCells ⟨g, off, none⟩ (Enc.size α)).run P w = .ok l.toArray w := by
      rw [← hl]; exact run_loadCells_list w _ l hr.add
    simp [run_sizeOf hT.size, h1, ofCells]
  | false =>
    rw [Enc.nagg ha] at hl
    obtain ⟨v, rfl⟩ := List.length_eq_one_iff.1 hl
    have h1 := hr 0 v rfl
    simp only [Nat.add_zero] at h1
    simp [h1, ofCells]
end
section
variable {P : Program} {n : Nat} {e : Env P} {G : Ctx} {S : List Res} {Q : Exit → Act → World → Prop}
variable {α β : Type} [Enc α] [Enc β] {d : Option Tmp} {t t2 : TypeId} {x y : Operand} {ty : TypeId} {pos : String} {af : Array Edge} {g : Option (Nat × Bool)}
theorem Q_load {z : α} (hx : At G x (PtrTo z)) (hT : GoT P t α) : Quiet P n e G S ⟨d, .load t x, ty, pos, af, g⟩ (V z) :=
  Q_of_run fun a w hh => by
    obtain ⟨b, off, l, h1, h2, h3, h4, h5⟩ := hx.rep hh
    refine ⟨_, w, ?_, Ext.refl _ _, Enc.toV h4⟩
    simp [execOp, h1, Instr.loadAt, Instr.sureAddr, run_loadVar_cells hT h4 h5]
theorem Q_idxAddr {l : List α} {k : IntKind} {i : Int} {el : TypeId} (ht : P.underlying t = some (.slice el)) (hs : (P.info? el).map (·.size) = some (Enc.size α))
    (hx : At G x (Sl l)) (hy : At G y (VInt k i)) (h0 : 0 ≤ i) (h1 : i.toNat < l.length) :
    Quiet P n e G S ⟨d, .indexAddr t x y, ty, pos, af, g⟩ (PtrTo (l[i.toNat]'h1)) :=
  Q_of_run fun a w hh => by
    obtain ⟨ad, c, xs, e1, e2, e3, e4, e5, e6⟩ := hx.rep hh
    have hy' : a.eval y = .int k i := hy.rep hh
    obtain ⟨b, off, rfl, h2, h3, h4⟩ := e6 (by intro hn; rw [hn] at h1; simp at h1)
    have hlt : i < (l.length : Int) := by omega
    refine ⟨.pointer (some ⟨b, off + i.toNat * Enc.size α, none⟩), w, ?_, Ext.refl _ _, ⟨b, _, _, rfl, h2, h3, cpl_get e5 i.toNat h1, h4.sub _ _⟩⟩
    simp only [execOp, e1, hy', Instr.indexAt, asIntOf, Sem.run_bind, Sem.run_pure, Result.andThen_ok, run_underlying ht, run_sizeOf hs, addr_add, if_pos (And.intro h0 hlt)]
theorem Q_idxAddrN {l : List α} {k : IntKind} {i : Nat} {el : TypeId} (ht : P.underlying t = some (.slice el)) (hs : (P.info? el).map (·.size) = some (Enc.size α))
    (hx : At G x (Sl l)) (hy : At G y (VInt k (i : Nat))) (h1 : i < l.length) :
    Quiet P n e G S ⟨d, .indexAddr t x y, ty, pos, af, g⟩ (PtrTo (l[i]'h1)) :=
  Q_idxAddr (i := (i : Int)) ht hs hx hy (by omega) (by simpa using h1)
theorem Q_slice {l : List α} {lo hi : Option Operand} {i j : Int} {el : TypeId} (ht : P.underlying t = some (.slice el)) (hs : (P.info? el).map (·.size) = some (Enc.size α)) (hx : At G x (Sl l))
    (hlo : match lo with | none => i = 0 | some o => ∃ k, At G o (VInt k i)) (hhi : match hi with | none => j = l.length | some o => ∃ k, At G o (VInt k j))
    (h0 : 0 ≤ i) (h1 : i ≤ j) (h2 : j ≤ l.length) :
    Quiet P n e G S ⟨d, .slice t x lo hi none, ty, pos, af, g⟩ (Sl ((l.take j.toNat).drop i.toNat)) :=
  Q_of_run fun a w hh => by
    obtain ⟨ad, c, xs, e1, e2, e3, e4, e5, e6⟩ := hx.rep hh
    have hlen : ((l.take j.toNat).drop i.toNat).length = j.toNat - i.toNat := by simp; omega
    have hcp : (cpl ((l.take j.toNat).drop i.toNat)).rep w (TT e S) ((xs.take (j.toNat * Enc.size α)).drop (i.toNat * Enc.size α)) :=
      (cpl_take (cpl_take e5 j.toNat (by omega)).1 i.toNat (by simp; omega)).2
    refine ⟨.slice (if c = i.toNat then ad else ad.map (·.add (i.toNat * Enc.size α))) (j.toNat - i.toNat) (c - i.toNat), w, ?_, Ext.refl _ _,
      ⟨_, c - i.toNat, _, by rw [hlen], by rw [hlen]; omega, by omega, ?_, hcp, ?_⟩⟩
    · have hb1 : ∀ (k : IntKind) (cd : BoundsCode), (Instr.sliceBound (.int k j) c cd).run P w = .ok j.toNat w := fun k cd => run_sliceBound w k j _ cd (by omega) (by omega)
      have hb0 : ∀ (k : IntKind) (cd : BoundsCode), (Instr.sliceBound (.int k i) j.toNat cd).run P w = .ok i.toNat w := fun k cd => run_sliceBound w k i _ cd h0 (by omega)
      have hb0l : j = l.length → ∀ (k : IntKind) (cd : BoundsCode), (Instr.sliceBound (.int k i) l.length cd).run P w = .ok i.toNat w := fun hj k cd => run_sliceBound w k i _ cd h0 (by omega)
      cases lo with
      | none =>
        have hi0 : i = 0 := hlo
        subst hi0
        cases hi with
        | none =>
          have hj : j = l.length := hhi
          subst hj
          simp [execOp, e1, Instr.sliceAt, Instr.slice, Instr.sliceBounds, run_underlying ht, run_sizeOf hs]
        | some o =>
          obtain ⟨k, hk⟩ := hhi
          have hk' : a.eval o = .int k j := hk.rep hh
          simp [execOp, e1, hk', Instr.sliceAt, Instr.slice, Instr.sliceBounds, run_underlying ht, hb1, run_sizeOf hs]
      | some o =>
        obtain ⟨k, hk⟩ := hlo
        have hk' : a.eval o = .int k i := hk.rep hh
        cases hi with
        | none =>
          have hj : j = l.length := hhi
          have hb := hb0l hj
          subst hj
          simp [execOp, e1, hk', Instr.sliceAt, Instr.slice, Instr.sliceBounds, run_underlying ht, hb, run_sizeOf hs]
        | some h =>
          obtain ⟨k', hkk⟩ := hhi
          have hkk' : a.eval h = .int k' j := hkk.rep hh
          simp [execOp, e1, hk', hkk', Instr.sliceAt, Instr.slice, Instr.sliceBounds, run_underlying ht, hb0, hb1, run_sizeOf hs]
    · intro hn
      split at hn
      · rename_i hci; omega
      · cases ad with
        | none => rw [e4 rfl]; omega
        | some x => simp at hn
    · intro hne
      have hpos : 0 < j.toNat - i.toNat := by rw [← hlen]; exact List.length_pos_iff.2 hne
      obtain ⟨b, off, rfl, k2, k3, k4⟩ := e6 (by intro hn; rw [hn] at h2; simp at h2; omega)
      refine ⟨b, off + i.toNat * Enc.size α, ?_, k2, k3, ?_⟩
      · rw [if_neg (by omega)]; simp [addr_add]
      · have := k4.sub (i.toNat * Enc.size α) ((j.toNat - i.toNat) * Enc.size α)
        rw [List.drop_take]
        have e : j.toNat * Enc.size α - i.toNat * Enc.size α = (j.toNat - i.toNat) * Enc.size α := by rw [Nat.sub_mul]
        rw [e]; exact this
theorem Q_len {l : List α} {ats : Array TypeId} {el : TypeId} (ht : P.underlying t = some (.slice el)) (hats : ats[0]? = some t) (hx : At G x (Sl l)) :
    Quiet P n e G S ⟨d, .call ⟨.builtin .len, #[x], ats⟩, ty, pos, af, g⟩ (VInt .i64 l.length) :=
  Q_of_run fun a w hh => by
    obtain ⟨ad, c, xs, e1, _⟩ := hx.rep hh
    refine ⟨_, w, ?_, Ext.refl _ _, rfl⟩
    simp [execOp, resolve, invoke, builtin, Builtin.len_, hats, e1, run_underlying ht, goInt]
end
end Go.Sep
namespace Go.Sep
open Go
open Enc (V)
def Repl (S : List Res) (r : Res) (rs : List Res) (S' : List Res) : Prop := ∃ A B, S = A ++ r :: B ∧ S' = A ++ rs ++ B
theorem Repl.one {r r' : Res} {S : List Res} : Repl (r :: S) r [r'] (r' :: S) := ⟨[], S, rfl, rfl⟩
theorem Repl.none {r : Res} {S : List Res} : Repl (r :: S) r [] S := ⟨[], S, rfl, rfl⟩
theorem Repl.there {s r : Res} {rs S S' : List Res} (h : Repl S r rs S') : Repl (s :: S) r rs (s :: S') := by
  obtain ⟨A, B, h1, h2⟩ := h
  exact ⟨s :: A, B, by rw [h1]; rfl, by rw [h2]; rfl⟩
def Split (S A B : List Res) : Prop := S.Perm (A ++ B)
theorem Split.nil {S : List Res} : Split S [] S := List.Perm.refl _
theorem Split.take {S S' A B : List Res} {r : Res} (h : Repl S r [] S') (hs : Split S' A B) : Split S (r :: A) B := by
  obtain ⟨X, Y, h1, h2⟩ := h
  subst h1; subst h2
  refine List.perm_middle.trans ?_
  rw [List.cons_append]
  refine List.Perm.cons r ?_
  simpa [Split] using hs
theorem Split.self {S : List Res} : Split S S [] := by simp [Split]
theorem feet_perm {S S' : List Res} (h : S.Perm S') : (feet S).Perm (feet S') := List.Perm.flatMap_right _ h
section
variable {P : Program} {n : Nat} {e : Env P} {G : Ctx} {S S' : List Res} {a : Act} {w : World} {Q : Exit → Act → World → Prop}
theorem TT_perm (h : S.Perm S') : TT e S = TT e S' := by
  funext b
  have : b ∈ feet S ↔ b ∈ feet S' := (feet_perm h).mem_iff
  simp [TT, this]
theorem Holds.perm (h : Holds n e G S a w) (hp : S.Perm S') : Holds n e G S' a w := by
  have ht := TT_perm (e := e) hp
  exact ⟨h.size, h.defers, by rw [← ht]; exact h.slots, by rw [← ht]; exact fun r hr => h.res r (hp.mem_iff.2 hr), (feet_perm hp).nodup_iff.1 h.nodup,
    fun b hb => h.own b ((feet_perm hp).mem_iff.2 hb), h.ext, by rw [← ht]; exact h.glob⟩
theorem Holds.change {A A' B : List Res} (h : Holds n e G S a w) (hs : Split S A B) {w' : World} (hx : Ext (feet A) w w')
    (hf : ∀ b, b ∈ feet A' → b ∈ feet A ∨ w.heap.size ≤ b) (hn : (feet A').Nodup) (hr : ∀ q, q ∈ A' → q.holds w' (TT e (A' ++ B))) : Holds n e G (A' ++ B) a w' := by
  have h' := h.perm hs
  have hnd := h'.nodup
  rw [feet_append] at hnd
  obtain ⟨hA, hB, hAB⟩ := List.nodup_append.1 hnd
  have hflt := h'.feet_lt
  have hT : ∀ b, b < w.heap.size → ¬ TT e (A ++ B) b → ¬ TT e (A' ++ B) b := by
    intro b hb hn ht
    rcases ht with ht | ht
    · exact hn (.inl ht)
    · rw [feet_append] at ht
      rcases List.mem_append.1 ht with ht | ht
      · rcases hf b ht with h1 | h1
        · exact hn (.inr (by rw [feet_append]; exact List.mem_append_left _ h1))
        · omega
      · exact hn (.inr (by rw [feet_append]; exact List.mem_append_right _ ht))
  have hk : Keeps w (TT e (A ++ B)) w' (TT e (A' ++ B)) := hx.keeps (fun b hb => .inr (by rw [feet_append]; exact List.mem_append_left _ hb)) hT
  refine ⟨h'.size, h'.defers, fun t X hX => X.mono (h'.slots t X hX) hk, ?_, ?_, ?_, ?_, KP.mono h'.glob hk⟩
  · intro r hr'
    rcases List.mem_append.1 hr' with hr' | hr'
    · exact hr r hr'
    · refine r.mono (h'.res r (List.mem_append_right _ hr')) (fun b hb hbT => hx.block b hb (fun hbA => ?_)) hT
      rcases hbT with hbT | hbT
      · exact hAB b hbA b (List.mem_flatMap.2 ⟨r, hr', hbT⟩) rfl
      · exact hbT (.inr (by rw [feet_append]; exact List.mem_append_left _ hbA))
  · rw [feet_append]
    refine List.nodup_append.2 ⟨hn, hB, fun x hx1 y hy1 hxy => ?_⟩
    subst hxy
    rcases hf x hx1 with h1 | h1
    · exact hAB x h1 x hy1 rfl
    · have := hflt x (by rw [feet_append]; exact List.mem_append_right _ hy1); omega
  · intro b hb
    rw [feet_append] at hb
    rcases List.mem_append.1 hb with hb | hb
    · rcases hf b hb with h1 | h1
      · exact h'.own b (by rw [feet_append]; exact List.mem_append_left _ h1)
      · exact .inr (Nat.le_trans h'.ext.size h1)
    · exact h'.own b (by rw [feet_append]; exact List.mem_append_right _ hb)
  · refine h'.ext.trans_new hx (fun x hx1 => h'.own x (by rw [feet_append]; exact List.mem_append_left _ hx1))
theorem Repl.split {r : Res} {rs : List Res} (h : Repl S r rs S') : ∃ B, Split S [r] B ∧ S'.Perm (rs ++ B) := by
  obtain ⟨X, Y, h1, h2⟩ := h
  refine ⟨X ++ Y, ?_, ?_⟩
  · rw [h1]; exact List.perm_middle
  · rw [h2, ← List.append_assoc]
    exact (List.perm_append_comm (l₁ := X) (l₂ := rs)).append_right Y
theorem Holds.repl {r : Res} {rs : List Res} (h : Holds n e G S a w) (hs : Repl S r rs S') {w' : World} (hx : Ext r.foot w w')
    (hf : ∀ b, b ∈ feet rs → b ∈ r.foot ∨ w.heap.size ≤ b) (hn : (feet rs).Nodup) (hr : ∀ q, q ∈ rs → q.holds w' (TT e S')) : Holds n e G S' a w' := by
  obtain ⟨B, h1, h2⟩ := hs.split
  have := h.change (A := [r]) (A' := rs) (B := B) h1 (w' := w') (by simpa using hx) (by simpa using hf) hn (by rw [← TT_perm h2]; exact hr)
  exact this.perm h2.symm
theorem Holds.new {r : Res} (h : Holds n e G S a w) {w' : World} (hx : Ext [] w w') (hf : ∀ b, b ∈ r.foot → w.heap.size ≤ b) (hn : r.foot.Nodup) (hr : r.holds w' (TT e (r :: S))) :
    Holds n e G (r :: S) a w' :=
  h.change (A := []) (A' := [r]) (B := S) Split.nil hx (by simpa using hf) (by simpa using hn) (by simpa using hr)
theorem Holds.lose {r : Res} (h : Holds n e G S a w) (hs : Repl S r [] S') : Holds n e G S' a w :=
  h.repl hs (Ext.refl _ _) (by simp) (by simp) (by simp)
theorem Repl.mem {r : Res} {rs : List Res} (h : Repl S r rs S') : r ∈ S := by obtain ⟨X, Y, h1, _⟩ := h; rw [h1]; simp
theorem Holds.put (h : Holds n e G S a w) {v : Value} {d : Nat} {X : VP} (hv : X.rep w (TT e S) v) (hd : d < n) : Holds n e ((d, X) :: G) S (a.put (some d) v) w :=
  h.quiet (Ext.refl _ _) hv hd
section
variable {α β : Type} [Enc α] [Enc β]
def BoxR (t : TypeId) (b : Nat) (x : α) : Res where
  foot := [b]
  holds w T := ∃ l : List Value, w.heap[b]? = some (.cells l.toArray t (0, 0)) ∧ (Enc.cp x).rep w T l
  lt := fun ⟨l, h, _⟩ b hb => by simp at hb; subst hb; exact (Array.getElem?_eq_some_iff.1 h).1
  mono := fun {w T w' T'} ⟨l, h, hc⟩ h1 h2 => ⟨l, (h1 b (Array.getElem?_eq_some_iff.1 h).1 (.inl (by simp))).trans h, (Enc.cp x).mono hc (fun c hc ht => ⟨h2 c hc ht, h1 c hc (.inr ht)⟩)⟩
def Ptr (b off : Nat) : VP := Is (.pointer (some ⟨b, off, none⟩))
structure Lens (α β : Type) [Enc α] [Enc β] (off : Nat) (get : α → β) (set : α → β → α) : Prop where
  fits : off + Enc.size β ≤ Enc.size α
  get_ok : ∀ {x w T l}, (Enc.cp x).rep w T l → (Enc.cp (get x)).rep w T ((l.drop off).take (Enc.size β))
  set_ok : ∀ {x y w T l m}, (Enc.cp x).rep w T l → (Enc.cp y).rep w T m → (Enc.cp (set x y)).rep w T (l.take off ++ m ++ l.drop (off + Enc.size β))
theorem Lens.id : Lens α α 0 (fun x => x) (fun _ y => y) where
  fits := by simp
  get_ok := fun h => by rw [List.drop_zero, ← Enc.len h, List.take_length]; exact h
  set_ok := fun h hm => by rw [List.take_zero, Nat.zero_add, ← Enc.len h, List.drop_length]; simpa using hm
theorem Lens.fst {γ : Type} [Enc γ] {off : Nat} {get : α → γ} {set : α → γ → α} (L : Lens α γ off get set) : Lens (α × β) γ off (fun x => get x.1) (fun x y => (set x.1 y, x.2)) where
  fits := Nat.le_trans L.fits (Nat.le_add_right _ _)
  get_ok := fun {x w T l} ⟨a, b, h, ha, hb⟩ => by
    subst h
    have h1 := L.get_ok ha
    have hf := L.fits
    rw [← Enc.len ha] at hf
    rw [List.drop_append_of_le_length (by omega), List.take_append_of_le_length (by rw [List.length_drop]; omega)]
    exact h1
  set_ok := fun {x y w T l m} ⟨a, b, h, ha, hb⟩ hm => by
    subst h
    have h1 := L.set_ok ha hm
    have hf := L.fits
    rw [← Enc.len ha] at hf
    refine ⟨_, b, ?_, h1, hb⟩
    rw [List.take_append_of_le_length (by omega), List.drop_append_of_le_length (by omega)]
    simp
theorem Lens.snd {γ : Type} [Enc γ] {off off' : Nat} {get : β → γ} {set : β → γ → β} (L : Lens β γ off get set) (ho : off' = Enc.size α + off) :
    Lens (α × β) γ off' (fun x => get x.2) (fun x y => (x.1, set x.2 y)) where
  fits := by
    have := L.fits
    show off' + Enc.size γ ≤ Enc.size α + Enc.size β
    omega
  get_ok := fun {x w T l} ⟨a, b, h, ha, hb⟩ => by
    subst h; subst ho
    have h1 := L.get_ok hb
    rw [← Enc.len ha, List.drop_length_add_append]
    exact h1
  set_ok := fun {x y w T l m} ⟨a, b, h, ha, hb⟩ hm => by
    subst h; subst ho
    have h1 := L.set_ok hb hm
    refine ⟨a, _, ?_, ha, h1⟩
    rw [← Enc.len ha, List.take_length_add_append, Nat.add_assoc, List.drop_length_add_append]
    simp
theorem Lens.idx {m : Nat} {off : Nat} (i : Nat) (h : i < m) (ho : off = i * Enc.size β) : Lens (Arr m β) β off (fun x => x.get i h) (fun x y => x.set i y) where
  fits := by
    show off + Enc.size β ≤ m * Enc.size β
    subst ho
    have : (i + 1) * Enc.size β ≤ m * Enc.size β := Nat.mul_le_mul_right _ h
    rw [Nat.add_mul] at this; omega
  get_ok := fun {x w T l} hx => by subst ho; exact cpl_get hx i (by rw [x.h]; exact h)
  set_ok := fun {x y w T l m} hx hm => by subst ho; exact cpl_set hx hm i (by rw [x.h]; exact h)
theorem reads_box {w : World} {b : Nat} {l : List Value} {t : TypeId} {fr : Nat × Nat} (h : w.heap[b]? = some (.cells l.toArray t fr)) : Reads w b 0 l := by
  intro j u hj
  rw [Nat.zero_add, cell_of_row w b j _ t fr h]
  simpa using hj
variable {d : Option Tmp} {dd : Nat} {t t2 : TypeId} {x y : Operand} {ty : TypeId} {pos : String} {af : Array Edge} {g : Option (Nat × Bool)} {ops : Array Oper} {rest : List Oper}
theorem Q_loadB {tb b off : Nat} {z : α} {get : α → β} {set : α → β → α} {z' : β} {S' : List Res} (hx : At G x (Ptr b off)) (hm : Repl S (BoxR tb b z) [] S') (L : Lens α β off get set) (hT : GoT P t β) (hz : get z = z') :
    Quiet P n e G S ⟨d, .load t x, ty, pos, af, g⟩ (V z') :=
  Q_of_run fun a w hh => by
    subst hz
    have h1 : a.eval x = .pointer (some ⟨b, off, none⟩) := hx.rep hh
    obtain ⟨l, h2, h3⟩ := hh.res _ hm.mem
    have h4 := L.get_ok h3
    have h5 := (reads_box h2).sub off (Enc.size β)
    rw [Nat.zero_add] at h5
    refine ⟨_, w, ?_, Ext.refl _ _, Enc.toV h4⟩
    simp [execOp, h1, Instr.loadAt, Instr.sureAddr, run_loadVar_cells hT h4 h5]
theorem run_storeVar_cells {t : TypeId} (hT : (P.info? t).map (·.size) = some (Enc.size β)) {y : β} {w : World} {T : Nat → Prop} {m : List Value} (hm : (Enc.cp y).rep w T m)
    {b off tb : Nat} {l : List Value} (hb : w.heap[b]? = some (.cells l.toArray tb (0, 0))) (hf : off + Enc.size β ≤ l.length) :
    (storeVar t ⟨b, off, none⟩ (ofCells (Enc.agg β) m)).run P w = .ok () (w.setRow b (l.take off ++ m ++ l.drop (off + Enc.size β)).toArray) := by
  have hl := Enc.len hm
  have hc := cells_ofCells hm
  have h1 := run_storeCells_at P b off tb m 0 l.toArray w hb (by simp; omega) (Enc.one hm)
  simp only [Nat.add_zero] at h1
  rw [hl] at h1
  unfold storeVar
  simp [Sem.run_bind, hc, run_sizeOf hT, hl, h1]
theorem Ext.setRow (w : World) (b : Nat) (cs : Array Value) : Ext [b] w (w.setRow b cs) :=
  ⟨rfl, rfl, rfl, by simp, fun i _ hi => setRow_other w b i cs (by simpa using hi)⟩
theorem J_store {tb b off : Nat} {z z' : α} {u : β} {get : α → β} {set : α → β → α} {S' : List Res} (hx : At G x (Ptr b off)) (hy : At G y (V u)) (hz : set z u = z') (hm : Repl S (BoxR tb b z) [BoxR tb b z'] S')
    (L : Lens α β off get set) (hT : (P.info? t).map (·.size) = some (Enc.size β))
    (h : J n e G S' (wpList P ops Q rest)) : J n e G S (wpList P ops Q (⟨none, .store t x y, ty, pos, af, none⟩ :: rest)) := by
  subst hz
  intro a w hh
  refine wpList_plain rfl fun K hK => ?_
  have h1 : a.eval x = .pointer (some ⟨b, off, none⟩) := hx.rep hh
  obtain ⟨m, hm1, hm2⟩ := Enc.ofV (hy.rep hh)
  obtain ⟨l, h2, h3⟩ := hh.res _ hm.mem
  have hl := Enc.len h3
  have hrun := run_storeVar_cells (P := P) hT hm1 h2 (off := off) (by have := L.fits; omega)
  unfold Oper.wp
  have hex : (execOp a.eval ⟨none, .store t x y, ty, pos, af, none⟩).run P w = .ok .skip (w.setRow b (l.take off ++ m ++ l.drop (off + Enc.size β)).toArray) := by
    simp only [execOp, h1, hm2, Instr.storeAt, Instr.sureAddr, Sem.run_bind, Sem.run_pure, Result.andThen_ok, hrun]
  rw [hex]
  refine hK _ _ (h _ _ ?_)
  have hnd := hh.nodup
  refine hh.repl hm (Ext.setRow w b _) (by simp [BoxR]) (by simp [BoxR]) ?_
  intro q hq
  simp at hq; subst hq
  refine ⟨_, setRow_heap w b _ _ tb _ h2, ?_⟩
  have hT' : TT e S' = TT e S := by
    obtain ⟨A, B, e1, e2⟩ := hm
    rw [e1, e2]; funext c; simp [TT, BoxR]
  rw [hT']
  have hk : Keeps w (TT e S) (w.setRow b (l.take off ++ m ++ l.drop (off + Enc.size β)).toArray) (TT e S) :=
    (Ext.setRow w b _).keeps (by intro c hc; simp at hc; subst hc; exact .inr (List.mem_flatMap.2 ⟨_, hm.mem, by simp [BoxR]⟩)) (fun _ _ h => h)
  exact (Enc.cp _).mono (L.set_ok h3 hm1) hk
def GoZ (P : Program) (t : TypeId) (z : α) : Prop := ∃ v, (P.info? t).bind (·.zero) = some v ∧ ∀ w T, (V z).rep w T v
theorem run_zero {t : TypeId} {v : Value} (h : (P.info? t).bind (·.zero) = some v) (w : World) : (zeroValue t).run P w = .ok v w := by
  cases hi : P.info? t with
  | none => rw [hi] at h; cases h
  | some i =>
    rw [hi] at h
    simp at h
    simp [zeroValue, typeInfo, hi, h]
theorem holds_newbox {z : α} {w : World} {l : List Value} {t : TypeId} (hh : Holds n e G S a w) (hc : (Enc.cp z).rep w (TT e S) l) :
    Holds n e G (BoxR t w.heap.size z :: S) a (w.alloc (.cells l.toArray t)) := by
  refine hh.new (Ext.alloc _ _ _) (by intro b hb; simp [BoxR] at hb; omega) (by simp [BoxR]) ⟨l, heap_alloc_new w _, ?_⟩
  refine (Enc.cp z).mono hc ((Ext.alloc [] w _).keeps (by simp) ?_)
  intro b hb hn ht
  rcases ht with ht | ht
  · exact hn (.inl ht)
  · rw [feet_cons] at ht
    rcases List.mem_append.1 ht with ht | ht
    · simp [BoxR] at ht; omega
    · exact hn (.inr ht)
theorem J_alloc {z : α} (hz : GoZ P t z) (hlt : Nat.blt dd n = true) (h : ∀ b, J n e ((dd, Ptr b 0) :: G) (BoxR t b z :: S) (wpList P ops Q rest)) :
    J n e G S (wpList P ops Q (⟨some dd, .alloc t, ty, pos, af, none⟩ :: rest)) := by
  intro a w hh
  have hlt' : dd < n := by simpa [Nat.blt_eq] using hlt
  obtain ⟨v, hv, hz⟩ := hz
  obtain ⟨l, hl, rfl⟩ := Enc.ofV (hz w (TT e S))
  refine wpList_plain rfl fun K hK => ?_
  unfold Oper.wp
  have hex : (execOp a.eval ⟨some dd, .alloc t, ty, pos, af, none⟩).run P w = .ok (.value (.pointer (some ⟨w.heap.size, 0, none⟩))) (w.alloc (.cells l.toArray t)) := by
    simp [execOp, Instr.alloc, run_zero hv, newVar, newRow, cells_ofCells hl]
  rw [hex]
  exact hK _ _ (h _ _ _ ((holds_newbox hh hl).put rfl hlt'))
theorem J_box {z : α} (hx : At G x (V z)) (hlt : Nat.blt dd n = true) (h : ∀ b, J n e ((dd, Ptr b 0) :: G) (BoxR t b z :: S) (wpList P ops Q rest)) :
    J n e G S (wpList P ops Q (⟨some dd, .box t x, ty, pos, af, none⟩ :: rest)) := by
  intro a w hh
  have hlt' : dd < n := by simpa [Nat.blt_eq] using hlt
  obtain ⟨l, hl, hv⟩ := Enc.ofV (hx.rep hh)
  refine wpList_plain rfl fun K hK => ?_
  unfold Oper.wp
  have hex : (execOp a.eval ⟨some dd, .box t x, ty, pos, af, none⟩).run P w = .ok (.value (.pointer (some ⟨w.heap.size, 0, none⟩))) (w.alloc (.cells l.toArray t)) := by
    simp [execOp, hv, Instr.box, newVar, newRow, cells_ofCells hl]
  rw [hex]
  exact hK _ _ (h _ _ _ ((holds_newbox hh hl).put rfl hlt'))
theorem J_boxI {z : α} (hx : At G x (V z)) (hlt : Nat.blt dd n = true) (h : J n e ((dd, PtrTo z) :: G) S (wpList P ops Q rest)) :
    J n e G S (wpList P ops Q (⟨some dd, .box t x, ty, pos, af, none⟩ :: rest)) := by
  intro a w hh
  have hlt' : dd < n := by simpa [Nat.blt_eq] using hlt
  obtain ⟨l, hl, hv⟩ := Enc.ofV (hx.rep hh)
  refine wpList_plain rfl fun K hK => ?_
  unfold Oper.wp
  have hex : (execOp a.eval ⟨some dd, .box t x, ty, pos, af, none⟩).run P w = .ok (.value (.pointer (some ⟨w.heap.size, 0, none⟩))) (w.alloc (.cells l.toArray t)) := by
    simp [execOp, hv, Instr.box, newVar, newRow, cells_ofCells hl]
  rw [hex]
  have hn := heap_alloc_new w (.cells l.toArray t)
  refine hK _ _ (h _ _ (hh.quiet (Ext.alloc _ _ _) ⟨w.heap.size, 0, l, rfl, fun ht => ?_, (Array.getElem?_eq_some_iff.1 hn).1, ?_, reads_box hn⟩ hlt'))
  · have := hh.T_lt _ ht; omega
  · exact (Enc.cp z).mono hl ((Ext.alloc [] w _).keeps (by simp) (fun _ _ h => h))
theorem J_freezeB {tb b : Nat} {z : α} {sl : Nat} {S' : List Res} {K : Act → World → Prop} (hm : Repl S (BoxR tb b z) [] S') (hf : find G sl = some (Ptr b 0)) (h : J n e ((sl, PtrTo z) :: G) S' K) : J n e G S K := by
  intro a w hh
  obtain ⟨l, h2, h3⟩ := hh.res _ hm.mem
  have hlo := hh.lose hm
  have hb : b < w.heap.size := (Array.getElem?_eq_some_iff.1 h2).1
  have hT : ∀ c, TT e S' c → TT e S c := by
    obtain ⟨A, B, e1, e2⟩ := hm
    rw [e1, e2]; intro c hc
    rcases hc with hc | hc
    · exact .inl hc
    · refine .inr ?_; simp at hc ⊢; rcases hc with hc | hc <;> simp [hc]
  have hnb : ¬ TT e S' b := by
    intro hc
    have hnd := hh.nodup
    have hap := hh.apart b (List.mem_flatMap.2 ⟨_, hm.mem, by simp [BoxR]⟩)
    obtain ⟨A, B, e1, e2⟩ := hm
    rw [e1] at hnd
    rcases hc with hc | hc
    · exact hap hc
    · rw [e2] at hc
      simp at hc
      rw [feet_append, feet_cons] at hnd
      obtain ⟨_, hnd2, hnd3⟩ := List.nodup_append.1 hnd
      rcases hc with hc | hc
      · exact hnd3 b hc b (by simp [BoxR]) rfl
      · obtain ⟨_, _, hnd4⟩ := List.nodup_append.1 hnd2
        exact hnd4 b (by simp [BoxR]) b hc rfl
  have hsl := hh.slots sl _ hf
  refine h a w ⟨hlo.size, hlo.defers, ?_, hlo.res, hlo.nodup, hlo.own, hlo.ext, hlo.glob⟩
  intro t' Z hz
  rw [find_cons] at hz
  by_cases ht : sl = t'
  · subst ht
    rw [if_pos rfl] at hz
    obtain rfl := Option.some.inj hz
    exact ⟨b, 0, l, hsl, hnb, hb, (Enc.cp z).mono h3 (fun c hc ht => ⟨fun h => ht (hT c h), rfl⟩), reads_box h2⟩
  · rw [if_neg ht] at hz
    exact hlo.slots t' Z hz
end
end
end Go.Sep
namespace Go.Sep
open Go
open Enc (V)
def elOk (P : Program) (el : TypeId) (s by_ : Nat) : Bool :=
  match P.info? el with
  | some i => i.size == s && i.bytes == by_ && (match i.zero with | some z => z.cells.size == s | none => false)
  | none => false
structure GoEl (P : Program) (el : TypeId) (α : Type) [Enc α] (by_ : Nat) : Prop where
  ok : elOk P el (Enc.size α) by_ = true
  pos : 0 < Enc.size α
theorem GoEl.parts {P : Program} {el : TypeId} {α : Type} [Enc α] {by_ : Nat} (h : GoEl P el α by_) :
    ∃ i z, P.info? el = some i ∧ i.zero = some z ∧ i.size = Enc.size α ∧ i.bytes = by_ ∧ z.cells.size = Enc.size α := by
  have h1 := h.ok
  unfold elOk at h1
  cases hi : P.info? el with
  | none => rw [hi] at h1; cases h1
  | some i =>
    rw [hi] at h1
    simp only [Bool.and_eq_true, beq_iff_eq] at h1
    obtain ⟨⟨h1, h2⟩, h3⟩ := h1
    cases hz : i.zero with
    | none => rw [hz] at h3; cases h3
    | some z => rw [hz] at h3; exact ⟨i, z, rfl, hz, h1, h2, by simpa using h3⟩
theorem GoEl.size {P : Program} {el : TypeId} {α : Type} [Enc α] {by_ : Nat} (h : GoEl P el α by_) : (P.info? el).map (·.size) = some (Enc.size α) := by
  obtain ⟨i, z, h1, _, h2, _⟩ := h.parts
  simp [h1, h2]
section
variable {α β : Type} [Enc α] [Enc β]
def RowR (el : TypeId) (v : Value) (l : List α) : Res where
  foot := v.ownBlock.toList
  holds w T := ∃ xs, w.ownsRow 0 el (Enc.size α) v l.length xs ∧ (cpl l).rep w T xs
  lt := fun ⟨xs, h, _⟩ b hb => by
    have := h.lt b (by simpa using hb)
    exact this.2
  mono := fun {w T w' T'} ⟨xs, h, hc⟩ h1 h2 => by
    refine ⟨xs, ?_, (cpl l).mono hc (fun c hc ht => ⟨h2 c hc ht, h1 c hc (.inr ht)⟩)⟩
    refine ⟨h.1, ?_⟩
    rcases h.2 with hn | ⟨g, cap, cur, hv, hb, hg, hr⟩
    · exact .inl hn
    · refine .inr ⟨g, cap, cur, hv, hb, ?_, hr⟩
      rw [h1 g (Array.getElem?_eq_some_iff.1 hg).1 (.inl (by rw [hv]; simp [Value.ownBlock]))]
      exact hg
end
section
variable {P : Program} {n : Nat} {e : Env P} {G : Ctx} {S S' : List Res} {Q : Exit → Act → World → Prop}
variable {α β : Type} [Enc α] [Enc β]
variable {d : Option Tmp} {dd : Nat} {t t2 : TypeId} {x y : Operand} {ty : TypeId} {pos : String} {af : Array Edge} {g : Option (Nat × Bool)} {ops : Array Oper} {rest : List Oper}
theorem J_rowNil {el : TypeId} {K : Act → World → Prop} (α : Type) [Enc α] (h : J n e G (RowR el (.slice none 0 0) ([] : List α) :: S) K) : J n e G S K := by
  intro a w hh
  exact h a w (hh.new (Ext.refl _ _) (by simp [RowR, Value.ownBlock]) (by simp [RowR, Value.ownBlock]) ⟨[], World.ownsRow_nil w 0 el _, rfl⟩)
theorem ownsRow_sl {w : World} {T : Nat → Prop} {el : TypeId} {v : Value} {l : List α} {xs : List Value} (h : w.ownsRow 0 el (Enc.size α) v l.length xs) (hc : (cpl l).rep w T xs)
    (hT : ∀ b, v.ownBlock = some b → ¬ T b) : (Sl l).rep w T v := by
  rcases h.2 with ⟨rfl, hn⟩ | ⟨g, cap, cur, rfl, hb, hg, h1, h2, h3, h4⟩
  · have : l = [] := List.eq_nil_of_length_eq_zero hn
    subst this
    exact ⟨none, 0, xs, rfl, Nat.le_refl _, Nat.zero_le _, fun _ => rfl, hc, fun h => absurd rfl h⟩
  · refine ⟨_, cap, xs, rfl, h1, h2, (fun h => by cases h), hc, fun _ => ⟨g, 0, rfl, hT g rfl, (Array.getElem?_eq_some_iff.1 hg).1, ?_⟩⟩
    intro j u hj
    rw [Nat.zero_add, cell_of_row w g j cur el (0, 0) hg]
    rw [← h4, List.getElem?_take] at hj
    split at hj
    · simpa using hj
    · cases hj
theorem J_freezeR {el : TypeId} {v : Value} {l : List α} {sl : Nat} {K : Act → World → Prop} (hm : Repl S (RowR el v l) [] S') (hf : find G sl = some (Is v)) (h : J n e ((sl, Sl l) :: G) S' K) : J n e G S K := by
  intro a w hh
  obtain ⟨xs, h2, h3⟩ := hh.res _ hm.mem
  have hlo := hh.lose hm
  have hT : ∀ c, TT e S' c → TT e S c := by
    obtain ⟨A, B, e1, e2⟩ := hm
    rw [e1, e2]; intro c hc
    rcases hc with hc | hc
    · exact .inl hc
    · refine .inr ?_; simp at hc ⊢; rcases hc with hc | hc <;> simp [hc]
  have hnb : ∀ b, v.ownBlock = some b → ¬ TT e S' b := by
    intro b hb hc
    have hbf : b ∈ (RowR el v l).foot := by simp [RowR, hb]
    have hnd := hh.nodup
    have hap := hh.apart b (List.mem_flatMap.2 ⟨_, hm.mem, hbf⟩)
    obtain ⟨A, B, e1, e2⟩ := hm
    rw [e1] at hnd
    rcases hc with hc | hc
    · exact hap hc
    · rw [e2] at hc
      simp at hc
      rw [feet_append, feet_cons] at hnd
      obtain ⟨_, hnd2, hnd3⟩ := List.nodup_append.1 hnd
      rcases hc with hc | hc
      · exact hnd3 b hc b (List.mem_append_left _ hbf) rfl
      · obtain ⟨_, _, hnd4⟩ := List.nodup_append.1 hnd2
        exact hnd4 b hbf b hc rfl
  have hsl := hh.slots sl _ hf
  refine h a w ⟨hlo.size, hlo.defers, ?_, hlo.res, hlo.nodup, hlo.own, hlo.ext, hlo.glob⟩
  intro t' Z hz
  rw [find_cons] at hz
  by_cases ht : sl = t'
  · subst ht
    rw [if_pos rfl] at hz
    obtain rfl := Option.some.inj hz
    have hv : a.tmps.getD sl undef = v := hsl
    rw [hv]
    exact ownsRow_sl h2 ((cpl l).mono h3 (fun c hc ht => ⟨fun h => ht (hT c h), rfl⟩)) hnb
  · rw [if_neg ht] at hz
    exact hlo.slots t' Z hz
theorem run_append_row {el by_ : Nat} (hE : GoEl P el α by_) (ht : P.underlying t = some (.slice el)) {w : World} {v : Value} {k : Nat} {xs : List Value} (hown : w.ownsRow 0 el (Enc.size α) v k xs)
    (ad : Addr) (m c : Nat) (news : List Value) (hl : news.length = m * Enc.size α) (hnews : ∀ j u, news[j]? = some u → w.cell? (ad.add j) = some u) (h1 : ∀ u, u ∈ news → u.oneCell' = true)
    (h63 : k + m ≤ maxLen) (hbytes : (k + m) * by_ ≤ 140737488355328) :
    ∃ v' w', (Builtin.append_ #[t, t] ty #[v, .slice (some ad) m c]).run P w = .ok v' w' ∧ w'.ownsRow 0 el (Enc.size α) v' (k + m) (xs ++ news) ∧ w.grownBy w' v.ownBlock ∧
      (∀ b, v'.ownBlock = some b → v.ownBlock = some b ∨ w.heap.size ≤ b) := by
  obtain ⟨i, z, hi, hz, hs, hb, hzs⟩ := hE.parts
  obtain ⟨v', w', hr, h2, h3, _⟩ := run_append_own (P := P) w 0 t ty el i z (Enc.size α) by_ ht hi hz hs hb hzs hE.pos v k xs hown ad m c news hl hnews h1 h63 hbytes (Nat.zero_le _)
  refine ⟨v', w', hr, h2, h3, fun b hbb => ?_⟩
  rcases hown.2 with ⟨hvn, hk0⟩ | ⟨gg, cap, cur, hv, hb0, hg, hnc, hcm, hcs, htake⟩
  · have hown' : w.ownsRow w.heap.size el (Enc.size α) v k xs := ⟨hown.1, .inl ⟨hvn, hk0⟩⟩
    obtain ⟨v2, w2, hr2, h4, _, _⟩ := run_append_own (P := P) w w.heap.size t ty el i z (Enc.size α) by_ ht hi hz hs hb hzs hE.pos v k xs hown' ad m c news hl hnews h1 h63 hbytes (Nat.le_refl _)
    rw [hr] at hr2
    injection hr2 with e1 e2
    subst e1; subst e2
    exact .inr (h4.lt b hbb).1
  · subst hv
    by_cases hroom : k + m ≤ cap
    · have hfit : k * i.size + news.length ≤ cur.size := by rw [hl, hcs, hs, ← Nat.add_mul]; exact Nat.mul_le_mul_right _ hroom
      have hr2 := run_append_room (P := P) w t ty el i ht hi gg k cap cur hg ad m c news (by rw [hs]; exact hl) hnews h1 hroom hfit
      rw [hr] at hr2
      injection hr2 with e1 e2
      subst e1
      exact .inl hbb
    · have holds : ∀ j u, xs[j]? = some u → w.cell? ((⟨gg, 0, none⟩ : Addr).add j) = some u := hown.cells (g := gg) rfl
      have hlen : xs.length = k * i.size := by rw [hown.1, hs]
      have hr2 := run_append_grow (P := P) w t ty el i z ht hi hz ⟨gg, 0, none⟩ k cap xs hlen holds ad m c news (by rw [hs]; exact hl) hnews (by omega) (by simp only [maxLen] at h63; omega)
        (growslice_fits (by omega) (by rw [hb]; exact hbytes))
      rw [hr] at hr2
      injection hr2 with e1 e2
      subst e1
      simp [Value.ownBlock] at hbb
      right; omega
theorem J_append {el by_ : Nat} {v : Value} {l l2 : List α} (hE : GoEl P el α by_) (ht : P.underlying t = some (.slice el)) (hs : At G x (Is v)) (hx : At G y (Sl l2))
    (hm : Repl S (RowR el v l) [] S') (hb : (l.length + l2.length) * by_ ≤ 140737488355328) (hl : l.length + l2.length ≤ maxLen) (hlt : Nat.blt dd n = true)
    (h : ∀ v', J n e ((dd, Is v') :: G) (RowR el v' (l ++ l2) :: S') (wpList P ops Q rest)) :
    J n e G S (wpList P ops Q (⟨some dd, .call ⟨.builtin .append, #[x, y], #[t, t]⟩, ty, pos, af, none⟩ :: rest)) := by
  intro a w hh
  have hlt' : dd < n := by simpa [Nat.blt_eq] using hlt
  have e1 : a.eval x = v := hs.rep hh
  obtain ⟨ad, c, ys, k1, k2, k3, k4, k5, k6⟩ := hx.rep hh
  obtain ⟨xs, r1, r2⟩ := hh.res _ hm.mem
  refine wpList_plain rfl fun K hK => ?_
  have key : ∃ v' w', (Builtin.append_ #[t, t] ty #[v, a.eval y]).run P w = .ok v' w' ∧ w'.ownsRow 0 el (Enc.size α) v' (l.length + l2.length) (xs ++ ys) ∧ w.grownBy w' v.ownBlock ∧
      (∀ b, v'.ownBlock = some b → v.ownBlock = some b ∨ w.heap.size ≤ b) := by
    rw [k1]
    by_cases hn : l2 = []
    · subst hn
      obtain rfl : ys = [] := k5
      cases ad with
      | none =>
        obtain rfl := k4 rfl
        obtain ⟨i, z, hi, hz, hs', hb', hzs⟩ := hE.parts
        exact ⟨v, w, run_append_owned_none w 0 t ty el i (Enc.size α) ht hi v l.length xs r1, by simpa using r1, ⟨rfl, rfl, rfl, Nat.le_refl _, fun _ _ _ => rfl⟩, fun b hb => .inl hb⟩
      | some ad => exact run_append_row hE ht r1 ad 0 c [] (by simp) (by simp) (by simp) (by simpa using hl) (by simpa using hb)
    · obtain ⟨gb, off, rfl, _, _, hr⟩ := k6 hn
      exact run_append_row hE ht r1 _ l2.length c ys (cpl_len k5) hr.add (cpl_one k5) hl hb
  obtain ⟨v', w', hrun, o1, o2, o3⟩ := key
  unfold Oper.wp
  have hex : (execOp a.eval ⟨some dd, .call ⟨.builtin .append, #[x, y], #[t, t]⟩, ty, pos, af, none⟩).run P w = .ok (.value v') w' := by
    simp only [execOp, resolve, invoke, builtin, Sem.run_bind, Sem.run_pure, Result.andThen_ok, List.map_toArray, List.map_cons, List.map_nil, e1, hrun]
  rw [hex]
  have hext : Ext v.ownBlock.toList w w' := ⟨o2.os, o2.tape, o2.output, o2.size, fun b hb hnb => o2.block b hb (fun he => hnb (by rw [← he]; simp))⟩
  obtain ⟨B, hB1, hB2⟩ := hm.split
  have hB : S'.Perm B := by simpa using hB2
  have hch := hh.change (A := [RowR el v l]) (A' := [RowR el v' (l ++ l2)]) (B := S') (hB1.trans (hB.symm.append_left _)) (w' := w') (by simpa [RowR] using hext)
    (by intro b hb; simp [RowR] at hb ⊢; exact o3 b hb) (by simp [RowR]; cases v'.ownBlock <;> simp) (by
      intro q hq
      simp at hq; subst hq
      refine ⟨xs ++ ys, by rw [List.length_append]; exact o1, ?_⟩
      have hk : Keeps w (TT e S) w' (TT e ([RowR el v' (l ++ l2)] ++ S')) := by
        refine hext.keeps (fun b hb => .inr (List.mem_flatMap.2 ⟨_, hm.mem, hb⟩)) ?_
        intro b hb hnt ht
        rcases ht with ht | ht
        · exact hnt (.inl ht)
        · rw [feet_append] at ht
          rcases List.mem_append.1 ht with ht | ht
          · simp [RowR] at ht
            rcases o3 b ht with h9 | h9
            · exact hnt (.inr (List.mem_flatMap.2 ⟨_, hm.mem, by simp [RowR, h9]⟩))
            · omega
          · refine hnt (.inr ?_)
            obtain ⟨A, C, f1, f2⟩ := hm
            rw [f1]; rw [f2] at ht
            simp at ht ⊢
            rcases ht with ht | ht <;> simp [ht]
      exact cpl_append ((cpl l).mono r2 hk) ((cpl l2).mono k5 hk))
  exact hK _ _ (h v' _ _ (hch.put rfl hlt'))
def Ats (G : Ctx) : List Operand → List VP → Prop
  | [], [] => True
  | x :: xs, X :: Xs => At G x X ∧ Ats G xs Xs
  | _, _ => False
def AtVs (G : Ctx) : List Operand → List α → Prop
  | [], [] => True
  | x :: xs, z :: zs => At G x (V z) ∧ AtVs G xs zs
  | _, _ => False
theorem atVs_cells {os : List Operand} : ∀ {zs : List α} {a : Act} {w : World}, AtVs G os zs → Holds n e G S a w →
    os.length = zs.length ∧ (∀ v, v ∈ os.map a.eval → v.cells.size = Enc.size α) ∧ (cpl zs).rep w (TT e S) ((os.map a.eval).flatMap fun v => v.cells.toList) := by
  induction os with
  | nil =>
    intro zs a w h hh
    cases zs with
    | nil => exact ⟨rfl, by simp, rfl⟩
    | cons z zs => exact h.elim
  | cons o os ih =>
    intro zs a w h hh
    cases zs with
    | nil => exact h.elim
    | cons z zs =>
      obtain ⟨h1, h2, h3⟩ := ih h.2 hh
      obtain ⟨l, hl, hv⟩ := Enc.ofV (h.1.rep hh)
      have hc : (a.eval o).cells = l.toArray := by rw [hv]; exact cells_ofCells hl
      refine ⟨by simp [h1], ?_, ?_⟩
      · intro v hv'
        simp only [List.map_cons, List.mem_cons] at hv'
        rcases hv' with rfl | hv'
        · rw [hc]; simpa using Enc.len hl
        · exact h2 v hv'
      · simp only [List.map_cons, List.flatMap_cons]
        exact ⟨_, _, rfl, by rw [hc]; simpa using hl, h3⟩
theorem run_buildSlice_dense {el by_ : Nat} (hE : GoEl P el α by_) (ht : P.underlying t = some (.slice el)) {os : List Operand} {zs : List α} {parts : Array (Nat × Operand)} {len : Nat}
    (hp : parts.toList = (os.zipIdx 0).map fun x => (x.2, x.1)) (hlen : len = os.length) (ho : AtVs G os zs) (hsm : zs.length * Enc.size α ≤ 16777216) {a : Act} {w : World} (hh : Holds n e G S a w) :
    (Instr.buildSlice t len (parts.map fun (i, x) => (i, a.eval x))).run P w =
      .ok (.slice (some ⟨w.heap.size, 0, none⟩) zs.length zs.length) (w.alloc (.cells ((os.map a.eval).flatMap fun v => v.cells.toList).toArray el)) := by
  obtain ⟨i, z, hi, hz, hs, hb, hzs⟩ := hE.parts
  obtain ⟨h1, h2, h3⟩ := atVs_cells ho hh
  subst hlen
  have hpe : (parts.map fun (i, x) => (i, a.eval x)).toList = ((os.map a.eval).zipIdx 0).map fun x => (x.2, x.1) := by
    rw [Array.toList_map, hp, List.zipIdx_map, List.map_map, List.map_map]; rfl
  by_cases h0 : os.length = 0
  · have : os = [] := List.eq_nil_of_length_eq_zero h0
    subst this
    have : zs = [] := by cases zs with | nil => rfl | cons _ _ => exact ho.elim
    subst this
    have hpl : (parts.map fun (i, x) => (i, a.eval x)) = #[] := by apply Array.toList_inj.1; rw [hpe]; rfl
    rw [hpl]
    have e0 : Array.range 0 = #[] := Array.eq_empty_of_size_eq_zero (by simp)
    simp [Instr.buildSlice, run_underlying ht, sizeOf, typeInfo, hi, Instr.fill, newRow, e0]
  · rw [← h1]
    have hpos := hE.pos
    refine run_buildSlice w t el os.length _ _ i z ht hi hz (by rw [hs, h1]; simp; omega) (by rw [hs]; exact Nat.mul_ne_zero h0 (by omega)) ?_
    rw [hpe, hs]
    exact Great.fill_whole hpos _ _ h2 (by simp)
theorem J_buildRow {el by_ : Nat} (hE : GoEl P el α by_) (ht : P.underlying t = some (.slice el)) {parts : Array (Nat × Operand)} {len : Nat} (os : List Operand) (zs : List α)
    (hp : parts.toList = (os.zipIdx 0).map fun x => (x.2, x.1)) (hlen : len = os.length) (ho : AtVs G os zs) (hsm : zs.length * Enc.size α ≤ 16777216) (hlt : Nat.blt dd n = true)
    (h : ∀ v, J n e ((dd, Is v) :: G) (RowR el v zs :: S) (wpList P ops Q rest)) :
    J n e G S (wpList P ops Q (⟨some dd, .buildSlice t len parts, ty, pos, af, none⟩ :: rest)) := by
  intro a w hh
  have hlt' : dd < n := by simpa [Nat.blt_eq] using hlt
  obtain ⟨h1, h2, h3⟩ := atVs_cells ho hh
  refine wpList_plain rfl fun K hK => ?_
  unfold Oper.wp
  have hrun := run_buildSlice_dense hE ht hp hlen ho hsm hh
  have hex : (execOp a.eval ⟨some dd, .buildSlice t len parts, ty, pos, af, none⟩).run P w =
      .ok (.value (.slice (some ⟨w.heap.size, 0, none⟩) zs.length zs.length)) (w.alloc (.cells ((os.map a.eval).flatMap fun v => v.cells.toList).toArray el)) := by
    simp only [execOp, Sem.run_bind, hrun, Result.andThen_ok, Sem.run_pure]
  rw [hex]
  have hn := heap_alloc_new w (.cells ((os.map a.eval).flatMap fun v => v.cells.toList).toArray el)
  have hp := hE.pos
  have hml : zs.length ≤ maxLen := by
    have : zs.length * 1 ≤ zs.length * Enc.size α := Nat.mul_le_mul_left _ hp
    simp only [maxLen]; omega
  have hcl := cpl_len h3
  refine hK _ _ (h _ _ _ ((hh.new (r := RowR el (.slice (some ⟨w.heap.size, 0, none⟩) zs.length zs.length) zs) (Ext.alloc _ _ _) (by intro b hb; simp [RowR, Value.ownBlock] at hb; omega) (by simp [RowR, Value.ownBlock])
    ⟨_, ⟨hcl, .inr ⟨w.heap.size, zs.length, _, rfl, Nat.zero_le _, hn, Nat.le_refl _, hml, by simpa using hcl, ?_⟩⟩, ?_⟩).put rfl hlt'))
  · simp only [← hcl, List.take_length]
  · refine (cpl zs).mono h3 ((Ext.alloc [] w _).keeps (by simp) ?_)
    intro b hb hnt ht
    rcases ht with ht | ht
    · exact hnt (.inl ht)
    · rw [feet_cons] at ht
      rcases List.mem_append.1 ht with ht | ht
      · simp [RowR, Value.ownBlock] at ht; omega
      · exact hnt (.inr ht)
end
end Go.Sep
namespace Go.Sep
open Go
open Enc (V)
def direct (o : Oper) : List Nat := (o.after.toList.filter (Region.binds .any)).map (·.on)
def bitsOf (acc : List Nat) (o : Oper) : Nat := (direct o).foldl (fun s k => s ||| 2 ^ k ||| acc.getD k 0) 0
def bitsGo : List Oper → List Nat → List Nat
  | [], acc => acc
  | o :: l, acc => bitsGo l (acc ++ [bitsOf acc o])
def bits (l : List Oper) : List Nat := bitsGo l []
theorem bitsOf_spec (acc : List Nat) (o : Oper) (j : Nat) (h : (bitsOf acc o).testBit j = true) : ∃ k, k ∈ direct o ∧ (k = j ∨ (acc.getD k 0).testBit j = true) := by
  unfold bitsOf at h
  have key : ∀ (ks : List Nat) (s : Nat), (ks.foldl (fun s k => s ||| 2 ^ k ||| acc.getD k 0) s).testBit j = true → s.testBit j = true ∨ ∃ k, k ∈ ks ∧ (k = j ∨ (acc.getD k 0).testBit j = true) := by
    intro ks
    induction ks with
    | nil => intro s hs; exact .inl hs
    | cons k ks ih =>
      intro s hs
      rw [List.foldl_cons] at hs
      rcases ih _ hs with h1 | ⟨k', hk, h1⟩
      · rw [Nat.testBit_or, Nat.testBit_or] at h1
        simp only [Bool.or_eq_true] at h1
        rcases h1 with (h1 | h1) | h1
        · exact .inl h1
        · refine .inr ⟨k, List.mem_cons_self, .inl ?_⟩
          rw [Nat.testBit_two_pow] at h1
          simpa using h1
        · exact .inr ⟨k, List.mem_cons_self, .inr h1⟩
      · exact .inr ⟨k', List.mem_cons_of_mem _ hk, h1⟩
  rcases key _ _ h with h1 | h1
  · simp at h1
  · exact h1
theorem bitsGo_get (l : List Oper) : ∀ (acc : List Nat), (bitsGo l acc).length = acc.length + l.length ∧ (∀ i, i < acc.length → (bitsGo l acc).getD i 0 = acc.getD i 0) ∧
    ∀ i o, l[i]? = some o → (bitsGo l acc).getD (acc.length + i) 0 = bitsOf ((bitsGo l acc).take (acc.length + i)) o := by
  induction l with
  | nil => intro acc; exact ⟨by simp [bitsGo], fun _ _ => rfl, fun i o h => by simp at h⟩
  | cons o l ih =>
    intro acc
    obtain ⟨h1, h2, h3⟩ := ih (acc ++ [bitsOf acc o])
    simp only [bitsGo]
    refine ⟨by rw [h1]; simp; omega, ?_, ?_⟩
    · intro i hi
      rw [h2 i (by simp; omega)]
      simp [List.getD, List.getElem?_append_left hi]
    · intro i o' ho
      have htake : (bitsGo l (acc ++ [bitsOf acc o])).take acc.length = acc := by
        apply List.ext_getElem?
        intro k
        by_cases hk : k < acc.length
        · rw [List.getElem?_take, if_pos hk]
          have := h2 k (by simp; omega)
          simp only [List.getD] at this
          rw [List.getElem?_append_left hk] at this
          have e1 : k < (bitsGo l (acc ++ [bitsOf acc o])).length := by rw [h1]; simp; omega
          rw [List.getElem?_eq_getElem e1, List.getElem?_eq_getElem hk] at this ⊢
          simpa using this
        · rw [List.getElem?_take, if_neg hk, List.getElem?_eq_none (by omega)]
      cases i with
      | zero =>
        simp at ho; subst ho
        rw [Nat.add_zero, h2 acc.length (by simp), htake]
        simp [List.getD]
      | succ i =>
        simp at ho
        have := h3 i o' ho
        simp only [List.length_append, List.length_cons, List.length_nil] at this
        rw [show acc.length + (i + 1) = acc.length + (0 + 1) + i from by omega]
        exact this
def Down (l : List Oper) (L : Nat → Prop) : Prop := ∀ i o, l[i]? = some o → L i → ∀ k, k ∈ direct o → L k
theorem bits_down {l : List Oper} {L : Nat → Prop} (hd : Down l L) (hlt : ∀ i o, l[i]? = some o → ∀ k, k ∈ direct o → k < i) :
    ∀ i o, l[i]? = some o → (∀ k, k ∈ direct o → L k) → ∀ j, ((bits l).getD i 0).testBit j = true → L j := by
  intro i
  induction i using Nat.strongRecOn with
  | _ i ih =>
    intro o ho hk j hj
    have h3 := (bitsGo_get l []).2.2 i o ho
    simp only [List.length_nil, Nat.zero_add] at h3
    unfold bits at hj
    rw [h3] at hj
    obtain ⟨k, hkm, h1⟩ := bitsOf_spec _ _ _ hj
    have hki := hlt i o ho k hkm
    rcases h1 with rfl | h1
    · exact hk k hkm
    · have hkl : k < l.length := Nat.lt_trans hki (List.getElem?_eq_some_iff.1 ho).1
      have hok : l[k]? = some l[k] := List.getElem?_eq_getElem hkl
      refine ih k hki l[k] hok (fun k' hk' => hd k l[k] hok (hk k hkm) k' hk') j ?_
      rw [List.getD_eq_getElem?_getD, List.getElem?_take, if_pos hki] at h1
      rw [List.getD_eq_getElem?_getD]
      exact h1
section
variable {P : Program} {n : Nat} {e : Env P} {G : Ctx} {S S' : List Res} {Q : Exit → Act → World → Prop}
def QStep (P : Program) (n : Nat) (e : Env P) (G : Ctx) (S : List Res) (ops : Array Oper) (o : Oper) (X : VP) : Prop :=
  ∀ a w, Holds n e G S a w → ∀ (K : Act → World → Prop) (Q : Exit → Act → World → Prop),
    (∀ v w', Ext [] w w' → X.rep w' (TT e S) v → K (a.put o.dst v) w') → if Region.wanted o (yielded ops a.tmps) then o.wp P a w K Q else K (a.put o.dst undef) w
theorem QS {ops : Array Oper} {o : Oper} {X : VP} (h : Quiet P n e G S o X) (hg : o.guard = none) : QStep P n e G S ops o X := by
  intro a w hh K Q hK
  rw [if_pos (by simp [Region.wanted, hg])]
  exact h a w hh K Q hK
theorem QG {ops : Array Oper} {o : Oper} {X : VP} {j dj : Nat} {oj : Oper} {want g b : Bool} {Y : VP}
    (hg : o.guard = some (j, want)) (hj : ops[j]? = some oj) (hdj : oj.dst = some dj) (hdl : Nat.blt dj n = true) (hf : find G dj = some Y)
    (hY : ∀ w T v, Y.rep w T v → (Opt g (VBool b)).rep w T v)
    (hq : (g && (b == want)) = true → Quiet P n e G S o X) : QStep P n e G S ops o (Opt (g && (b == want)) X) := by
  intro a w hh K Q hK
  have hdl' : dj < n := by simpa [Nat.blt_eq] using hdl
  have hy := hY _ _ _ (hh.slots dj Y hf)
  have hyi := yielded_of hj hdj (a := a) (by rw [hh.size]; exact hdl')
  have hw : Region.wanted o (yielded ops a.tmps) = (g && (b == want)) := by
    simp only [Region.wanted, hg, hyi]
    cases g with
    | false => rw [hy.2 rfl]; simp [undef]
    | true =>
      have : a.tmps.getD dj undef = .bool b := hy.1 rfl
      rw [this]; cases b <;> cases want <;> rfl
  rw [hw]
  cases hc : (g && (b == want)) with
  | true =>
    rw [if_pos rfl]
    exact hq hc a w hh K Q fun v w' hx hv => hK _ _ hx ⟨fun _ => hv, fun hf => (by rw [hc] at hf; cases hf)⟩
  | false =>
    rw [if_neg (by simp)]
    exact hK _ _ (Ext.refl [] w) ⟨fun ht => (by rw [hc] at ht; cases ht), fun _ => rfl⟩
theorem J_qstep {ops : Array Oper} {rest : List Oper} {o : Oper} {X : VP} {d : Nat} (hq : QStep P n e G S ops o X) (hd : o.dst = some d) (hlt : Nat.blt d n = true)
    (h : J n e ((d, X) :: G) S (wpList P ops Q rest)) : J n e G S (wpList P ops Q (o :: rest)) := by
  intro a w hh
  have hlt' : d < n := by simpa [Nat.blt_eq] using hlt
  refine wpList_step fun K hK => hq a w hh K Q fun v w' hx hv => hK _ _ ?_
  rw [hd]
  exact h _ _ (hh.quiet hx hv hlt')
def looks (l : List Oper) (o : Oper) : List Nat :=
  (o.op.operands.toList.filterMap fun | .tmp t => some t | _ => none) ++ (match o.guard with | some (g, _) => ((l[g]?).bind (·.dst)).toList | none => [])
def srcOf (ds : List Nat) (bi : Nat) (t : Nat) : Option Nat := (List.range ds.length).find? fun j => (ds.getD j 0 == t) && bi.testBit j
def srcOk (l : List Oper) (ds : List Nat) (i : Nat) : Bool :=
  match l[i]? with
  | none => false
  | some o => (looks l o).all fun t =>
      (srcOf ds ((bits l).getD i 0) t).isSome || (List.range ds.length).all fun j => !(ds.getD j 0 == t) || ((bits l).getD j 0).testBit i
def lookCtx (G : Ctx) (ds : List Nat) (Xs : List VP) (bi : Nat) : List Nat → Ctx
  | [] => []
  | t :: ts =>
    match (match srcOf ds bi t with | some j => Xs[j]? | none => find G t) with
    | some X => (t, X) :: lookCtx G ds Xs bi ts
    | none => lookCtx G ds Xs bi ts
def lctx (G : Ctx) (ds : List Nat) (Xs : List VP) (l : List Oper) (i : Nat) : Ctx :=
  match l[i]? with
  | none => []
  | some o => lookCtx G ds Xs ((bits l).getD i 0) (looks l o)
theorem lookCtx_find (G : Ctx) (ds : List Nat) (Xs : List VP) (bi : Nat) : ∀ (ts : List Nat) (t : Nat) (X : VP), find (lookCtx G ds Xs bi ts) t = some X →
    t ∈ ts ∧ (match srcOf ds bi t with | some j => Xs[j]? | none => find G t) = some X := by
  intro ts
  induction ts with
  | nil => intro t X h; simp [lookCtx, find] at h
  | cons t0 ts ih =>
    intro t X h
    simp only [lookCtx] at h
    split at h
    · rename_i Y hY
      rw [find_cons] at h
      by_cases ht : t0 = t
      · subst ht
        rw [if_pos rfl] at h
        exact ⟨List.mem_cons_self, hY.trans h⟩
      · rw [if_neg ht] at h
        obtain ⟨h1, h2⟩ := ih t X h
        exact ⟨List.mem_cons_of_mem _ h1, h2⟩
    · obtain ⟨h1, h2⟩ := ih t X h
      exact ⟨List.mem_cons_of_mem _ h1, h2⟩
def QAll (P : Program) (n : Nat) (e : Env P) (G : Ctx) (S : List Res) (l : List Oper) (ds : List Nat) (Xs : List VP) : Nat → List Oper → List VP → Prop
  | _, [], [] => True
  | i, o :: os, X :: Ys => QStep P n e (lctx G ds Xs l i) S l.toArray o X ∧ QAll P n e G S l ds Xs (i + 1) os Ys
  | _, _, _ => False
theorem QAll.get {l : List Oper} {ds : List Nat} {Xs : List VP} : ∀ {os : List Oper} {Ys : List VP} {i : Nat}, QAll P n e G S l ds Xs i os Ys →
    os.length = Ys.length ∧ ∀ k o, os[k]? = some o → ∃ X, Ys[k]? = some X ∧ QStep P n e (lctx G ds Xs l (i + k)) S l.toArray o X := by
  intro os
  induction os with
  | nil => intro Ys i h; cases Ys with | nil => exact ⟨rfl, fun k o h => by simp at h⟩ | cons _ _ => exact h.elim
  | cons o os ih =>
    intro Ys i h
    cases Ys with
    | nil => exact h.elim
    | cons X Ys =>
      obtain ⟨h1, h2⟩ := ih h.2
      refine ⟨by simp [h1], fun k o' hk => ?_⟩
      cases k with
      | zero => simp at hk; subst hk; exact ⟨X, rfl, h.1⟩
      | succ k =>
        obtain ⟨Y, h3, h4⟩ := h2 k o' (by simpa using hk)
        exact ⟨Y, by simpa using h3, by rw [show i + (k + 1) = i + 1 + k from by omega]; exact h4⟩
def backOk (l : List Oper) : Bool := (List.range l.length).all fun i => match l[i]? with | some o => (direct o).all (· < i) | none => true
def tailOk (l : List Oper) (s : Nat) : Bool := (List.range l.length).all fun k => decide (k < s) || (List.range k).all fun j => ((bits l).getD k 0).testBit j
def nodupB : List Nat → Bool
  | [] => true
  | d :: ds => !(ds.any (Nat.beq d)) && nodupB ds
theorem nodupB_spec : ∀ {ds : List Nat}, nodupB ds = true → ds.Nodup
  | [], _ => List.nodup_nil
  | d :: ds, h => by
    simp only [nodupB, Bool.and_eq_true, Bool.not_eq_true'] at h
    refine List.nodup_cons.2 ⟨fun hm => ?_, nodupB_spec h.2⟩
    have : ds.any (Nat.beq d) = true := List.any_eq_true.2 ⟨d, hm, by simp⟩
    rw [this] at h; simp at h
structure Inv {P : Program} (n : Nat) (e : Env P) (G : Ctx) (S : List Res) (ds : List Nat) (Xs : List VP) (L : Nat → Prop) (a : Act) (w : World) : Prop where
  base : Holds n e [] S a w
  done : ∀ j X, L j → Xs[j]? = some X → X.rep w (TT e S) (a.tmps.getD (ds.getD j 0) undef)
  old : ∀ t X, find G t = some X → (∀ j, L j → j < ds.length → ds.getD j 0 ≠ t) → X.rep w (TT e S) (a.tmps.getD t undef)
theorem listed_get {listed : Array Bool} {i : Nat} (h : i < listed.size) (hd : listed.getD i true = false) : listed.getD i false = false := by
  simp [h] at hd ⊢; exact hd
theorem find_zip : ∀ {ds : List Nat} {Xs : List VP} {t : Nat} {X : VP}, ds.length = Xs.length → find (ds.zip Xs ++ G) t = some X →
    (∃ j, j < ds.length ∧ ds.getD j 0 = t ∧ Xs[j]? = some X) ∨ (find G t = some X ∧ ∀ j, j < ds.length → ds.getD j 0 ≠ t)
  | [], [], t, X, _, h => .inr ⟨h, fun j hj => by simp at hj⟩
  | d :: ds, Y :: Xs, t, X, hl, h => by
    rw [List.zip_cons_cons, List.cons_append, find_cons] at h
    by_cases ht : d = t
    · rw [if_pos ht] at h
      exact .inl ⟨0, by simp, by simpa using ht, by simpa using h⟩
    · rw [if_neg ht] at h
      rcases find_zip (by simpa using hl) h with ⟨j, h1, h2, h3⟩ | ⟨h1, h2⟩
      · exact .inl ⟨j + 1, by simp; omega, by simpa using h2, by simpa using h3⟩
      · refine .inr ⟨h1, fun j hj => ?_⟩
        cases j with
        | zero => simpa using ht
        | succ j => simpa using h2 j (by simp at hj; omega)
  | [], _ :: _, _, _, hl, _ => by simp at hl
  | _ :: _, [], _, _, hl, _ => by simp at hl
theorem getD_set_self {listed : Array Bool} {i : Nat} (h : i < listed.size) : (listed.setIfInBounds i true).getD i false = true := by simp [h]
theorem J_draw {id : Nat} {l : List Oper} (hm : P.follows .mixedOrders = true) (s : Nat) (ds : List Nat) (Xs : List VP)
    (hsl : Nat.ble s l.length = true) (hds : (l.take s).map (·.dst) = ds.map some) (hdn : nodupB ds = true) (hdl : ds.all (Nat.blt · n) = true) (hback : backOk l = true) (hsrc : (List.range s).all (srcOk l ds) = true) (htail : tailOk l s = true)
    (hq : QAll P n e G S l ds Xs 0 (l.take s) Xs)
    (h : J n e (ds.zip Xs ++ G) S (wpList P l.toArray Q (l.drop s))) : J n e G S ((Code.region id l.toArray true).wp P Q) := by
  intro a w hh
  have hsl' : s ≤ l.length := by simpa [Nat.ble_eq] using hsl
  obtain ⟨hlen, hget⟩ := hq.get
  have hdlen : ds.length = s := by
    have := congrArg List.length hds
    simp at this; omega
  have hXlen : Xs.length = s := by rw [← hlen]; simp; omega
  have hdst : ∀ i o, i < s → l[i]? = some o → o.dst = some (ds.getD i 0) := by
    intro i o hi ho
    have h1 : ((l.take s).map (·.dst))[i]? = (ds.map some)[i]? := by rw [hds]
    rw [List.getElem?_map, List.getElem?_take, if_pos hi, ho, List.getElem?_map] at h1
    have hid : i < ds.length := by omega
    rw [List.getElem?_eq_getElem hid] at h1
    simp at h1
    rw [h1, List.getD_eq_getElem?_getD, List.getElem?_eq_getElem hid]; rfl
  have hdlt : ∀ i, i < s → ds.getD i 0 < n := by
    intro i hi
    have hid : i < ds.length := by omega
    have := List.all_eq_true.1 hdl ds[i] (List.getElem_mem hid)
    rw [List.getD_eq_getElem?_getD, List.getElem?_eq_getElem hid]
    simpa [Nat.blt_eq] using this
  have hnd := nodupB_spec hdn
  have hdne : ∀ i j, i < s → j < s → i ≠ j → ds.getD i 0 ≠ ds.getD j 0 := by
    intro i j hi hj hij heq
    have hid : i < ds.length := by omega
    have hjd : j < ds.length := by omega
    rw [List.getD_eq_getElem?_getD, List.getD_eq_getElem?_getD, List.getElem?_eq_getElem hid, List.getElem?_eq_getElem hjd] at heq
    have heq' : ds[i] = ds[j] := by simpa using heq
    rcases Nat.lt_or_gt_of_ne hij with h | h
    · exact List.pairwise_iff_getElem.1 hnd i j hid hjd h heq'
    · exact List.pairwise_iff_getElem.1 hnd j i hjd hid h heq'.symm
  have hlt : ∀ i o, l[i]? = some o → ∀ k, k ∈ direct o → k < i := by
    intro i o ho k hk
    have h1 := List.all_eq_true.1 hback i (List.mem_range.2 (List.getElem?_eq_some_iff.1 ho).1)
    simp only [ho] at h1
    simpa using List.all_eq_true.1 h1 k hk
  -- the tail
  have tail : ∀ (fuel k : Nat) (listed : Array Bool) (a : Act) (w : World), s ≤ k → k ≤ l.length → fuel = l.length - k → listed.size = l.length → (∀ j, j < l.length → (listed.getD j false = true ↔ j < k)) →
      wpList P l.toArray Q (l.drop k) a w → wpAny P .any l.toArray Q fuel listed a w := by
    intro fuel
    induction fuel with
    | zero =>
      intro k listed a w hsk hkl hf hls hlist hw
      have hke : k = l.length := by omega
      subst hke
      rw [List.drop_length] at hw
      refine wpAny_done ?_ hw 0
      apply List.eq_nil_iff_forall_not_mem.2
      intro j hj
      obtain ⟨h1, oj, ho, _⟩ := mem_ready.1 hj
      have hjl : j < l.length := by
        have := (Array.getElem?_eq_some_iff.1 ho).1; simpa using this
      have h2 := (hlist j hjl).2 hjl
      have h3 : listed.getD j false = false := listed_get (by rw [hls]; exact hjl) h1
      rw [h3] at h2; cases h2
    | succ fuel ih =>
      intro k listed a w hsk hkl hf hls hlist hw
      have hk : k < l.length := by omega
      have hok : l[k]? = some l[k] := List.getElem?_eq_getElem hk
      have hko : l.toArray[k]? = some l[k] := by simp [hok]
      have hready : ∀ i, i ∈ Region.ready .any l.toArray listed → i = k := by
        intro i hi
        obtain ⟨h1, oi, ho, hall⟩ := mem_ready.1 hi
        have hil : i < l.length := by
          have := (Array.getElem?_eq_some_iff.1 ho).1; simpa using this
        have h3 : listed.getD i false = false := listed_get (by rw [hls]; exact hil) h1
        have hnk : ¬ i < k := fun hik => by rw [(hlist i hil).2 hik] at h3; cases h3
        by_cases hne : i = k
        · exact hne
        · exfalso
          have hoi : l[i]? = some oi := by simpa using ho
          have ht := List.all_eq_true.1 htail i (List.mem_range.2 hil)
          simp only [Bool.or_eq_true, decide_eq_true_eq] at ht
          rcases ht with ht | ht
          · omega
          · have hb := List.all_eq_true.1 ht k (List.mem_range.2 (by omega))
            have hdown : Down l (fun j => j < k) := by
              intro j o' ho' hj k' hk'
              exact Nat.lt_trans (hlt j o' ho' k' hk') hj
            have hdi : ∀ k', k' ∈ direct oi → k' < k := by
              intro k' hk'
              unfold direct at hk'
              obtain ⟨ed, he1, he2⟩ := List.mem_map.1 hk'
              rw [List.mem_filter] at he1
              have h4 := hall ed (by simpa using he1.1) he1.2
              rw [he2] at h4
              have hkl' : k' < l.length := Nat.lt_trans (hlt i oi hoi k' (by unfold direct; exact hk')) hil
              exact (hlist k' hkl').1 h4
            have := bits_down hdown hlt i oi hoi hdi k hb
            omega
      refine ⟨fun h0 => ?_, fun i hi => ?_⟩
      · exfalso
        have : k ∈ Region.ready .any l.toArray listed := by
          refine mem_ready.2 ⟨?_, l[k], hko, ?_⟩
          · have h5 : ¬ listed.getD k false = true := fun h => by have := (hlist k hk).1 h; omega
            have : k < listed.size := by rw [hls]; exact hk
            simp [this] at h5 ⊢; exact h5
          · intro ed he hb
            have hkd : ed.on ∈ direct l[k] := by unfold direct; exact List.mem_map.2 ⟨ed, List.mem_filter.2 ⟨by simpa using he, hb⟩, rfl⟩
            have h6 := hlt k l[k] hok ed.on hkd
            exact (hlist ed.on (by omega)).2 h6
        rw [h0] at this; cases this
      · obtain rfl := hready i hi
        have hdrop : l.drop i = l[i] :: l.drop (i + 1) := List.drop_eq_getElem_cons hk
        rw [hdrop] at hw
        unfold wpOp
        simp only [hko]
        have hset : ∀ a w, wpList P l.toArray Q (l.drop (i + 1)) a w → wpAny P .any l.toArray Q fuel (listed.setIfInBounds i true) a w := by
          intro a w hw
          refine ih (i + 1) _ a w (by omega) (by omega) (by omega) (by simpa using hls) (fun j hj => ?_) hw
          by_cases hji : i = j
          · subst hji
            have : i < listed.size := by rw [hls]; exact hk
            simp [this]
          · rw [getD_set_ne false hji, hlist j hj]; omega
        unfold wpList at hw
        split
        · rename_i hwn
          rw [if_pos hwn] at hw
          exact hw.imp (Oper.wp_mono hset) (fun x => x)
        · rename_i hwn
          rw [if_neg hwn] at hw
          exact hset _ _ hw
  -- the quiet ones
  have main : ∀ (fuel : Nat) (listed : Array Bool) (a : Act) (w : World), listed.size = l.length → (∀ j, s ≤ j → listed.getD j false = false) → Down l (fun j => listed.getD j false = true) →
      l.length = fuel + ((List.range s).filter (fun j => listed.getD j false)).length → Inv n e G S ds Xs (fun j => listed.getD j false = true) a w → wpAny P .any l.toArray Q fuel listed a w := by
    intro fuel
    induction fuel with
    | zero =>
      intro listed a w hls hhi hdown hcount hinv
      -- all are done, and there is no tail
      have hle : ((List.range s).filter (fun j => listed.getD j false)).length ≤ s := by
        have := List.length_filter_le (fun j => listed.getD j false) (List.range s)
        simpa using this
      have hs : s = l.length := by omega
      have hall : ∀ j, j < s → listed.getD j false = true := by
        intro j hj
        have h1 : ((List.range s).filter (fun j => listed.getD j false)).length = (List.range s).length := by simp at hcount ⊢; omega
        have h2 := List.length_filter_eq_length_iff.1 h1
        exact h2 j (List.mem_range.2 hj)
      refine tail 0 s listed a w (Nat.le_refl _) hsl' (by omega) hls (fun j hj => ⟨fun _ => by omega, fun hj => hall j hj⟩) ?_
      refine h a w ⟨hinv.base.size, hinv.base.defers, fun t X hX => ?_, hinv.base.res, hinv.base.nodup, hinv.base.own, hinv.base.ext, hinv.base.glob⟩
      rcases find_zip (by omega) hX with ⟨j, h1, h2, h3⟩ | ⟨h1, h2⟩
      · rw [← h2]; exact hinv.done j X (hall j (by omega)) h3
      · exact hinv.old t X h1 (fun j _ hj => h2 j hj)
    | succ fuel ih =>
      intro listed a w hls hhi hdown hcount hinv
      by_cases hall : ∀ j, j < s → listed.getD j false = true
      · have hfl : (List.range s).filter (fun j => listed.getD j false) = List.range s := List.filter_eq_self.2 (fun j hj => hall j (List.mem_range.1 hj))
        rw [hfl, List.length_range] at hcount
        refine tail (fuel + 1) s listed a w (Nat.le_refl _) hsl' (by omega) hls (fun j hj => ⟨fun h1 => ?_, fun hj => hall j hj⟩) ?_
        · by_cases hjs : j < s
          · exact hjs
          · rw [hhi j (by omega)] at h1; cases h1
        · refine h a w ⟨hinv.base.size, hinv.base.defers, fun t X hX => ?_, hinv.base.res, hinv.base.nodup, hinv.base.own, hinv.base.ext, hinv.base.glob⟩
          rcases find_zip (by omega) hX with ⟨j, h1, h2, h3⟩ | ⟨h1, h2⟩
          · rw [← h2]; exact hinv.done j X (hall j (by omega)) h3
          · exact hinv.old t X h1 (fun j _ hj => h2 j hj)
      · -- some quiet one is not done
        have hready : ∀ i, i ∈ Region.ready .any l.toArray listed → i < s ∧ listed.getD i false = false ∧ ∃ oi, l[i]? = some oi ∧ ∀ k, k ∈ direct oi → listed.getD k false = true := by
          intro i hi
          obtain ⟨h1, oi, ho, hal⟩ := mem_ready.1 hi
          have hoi : l[i]? = some oi := by simpa using ho
          have hil : i < l.length := (List.getElem?_eq_some_iff.1 hoi).1
          have h3 : listed.getD i false = false := listed_get (by rw [hls]; exact hil) h1
          have hdi : ∀ k', k' ∈ direct oi → listed.getD k' false = true := by
            intro k' hk'
            unfold direct at hk'
            obtain ⟨ed, he1, he2⟩ := List.mem_map.1 hk'
            rw [List.mem_filter] at he1
            rw [← he2]; exact hal ed (by simpa using he1.1) he1.2
          refine ⟨?_, h3, oi, hoi, hdi⟩
          by_cases his : i < s
          · exact his
          · exfalso
            apply hall
            intro j hj
            have ht := List.all_eq_true.1 htail i (List.mem_range.2 hil)
            simp only [Bool.or_eq_true, decide_eq_true_eq] at ht
            rcases ht with ht | ht
            · omega
            · exact bits_down hdown hlt i oi hoi hdi j (List.all_eq_true.1 ht j (List.mem_range.2 (by omega)))
        refine ⟨fun h0 => ?_, fun i hi => ?_⟩
        · exfalso
          -- the least that is not done is ready
          obtain ⟨j, hj⟩ := Classical.not_forall.1 hall
          have hex : ∃ j, j < s ∧ listed.getD j false = false := ⟨j, by
            obtain ⟨h1, h2⟩ := Classical.not_imp.1 hj
            exact ⟨h1, by simpa using h2⟩⟩
          have hmin : ∃ j, (j < s ∧ listed.getD j false = false) ∧ ∀ k, k < j → listed.getD k false = true := by
            obtain ⟨j, hj1, hj2⟩ := hex
            induction j using Nat.strongRecOn with
            | _ j ihj =>
              by_cases hx : ∃ k, k < j ∧ listed.getD k false = false
              · obtain ⟨k, hk1, hk2⟩ := hx
                exact ihj k hk1 (by omega) hk2
              · exact ⟨j, ⟨hj1, hj2⟩, fun k hk => by
                  cases hv : listed.getD k false with
                  | true => rfl
                  | false => exact absurd ⟨k, hk, hv⟩ hx⟩
          obtain ⟨j, ⟨hj1, hj2⟩, hj3⟩ := hmin
          have hjl : j < l.length := by omega
          have : j ∈ Region.ready .any l.toArray listed := by
            refine mem_ready.2 ⟨?_, l[j], by simp [List.getElem?_eq_getElem hjl], ?_⟩
            · have : j < listed.size := by rw [hls]; exact hjl
              simp [this] at hj2 ⊢; exact hj2
            · intro ed he hb
              have hkd : ed.on ∈ direct l[j] := by unfold direct; exact List.mem_map.2 ⟨ed, List.mem_filter.2 ⟨by simpa using he, hb⟩, rfl⟩
              exact hj3 ed.on (hlt j l[j] (List.getElem?_eq_getElem hjl) ed.on hkd)
          rw [h0] at this; cases this
        · obtain ⟨his, hnl, oi, hoi, hdi⟩ := hready i hi
          have hko : l.toArray[i]? = some oi := by simpa using hoi
          obtain ⟨X, hX, hqs⟩ := hget i oi (by rw [List.getElem?_take, if_pos his]; exact hoi)
          rw [Nat.zero_add] at hqs
          have hclos := bits_down hdown hlt i oi hoi hdi
          have hloc : Holds n e (lctx G ds Xs l i) S a w := by
            refine ⟨hinv.base.size, hinv.base.defers, fun t Y hY => ?_, hinv.base.res, hinv.base.nodup, hinv.base.own, hinv.base.ext, hinv.base.glob⟩
            simp only [lctx, hoi] at hY
            obtain ⟨htm, hsrcY⟩ := lookCtx_find _ _ _ _ _ _ _ hY
            cases hso : srcOf ds ((bits l).getD i 0) t with
            | some j =>
              rw [hso] at hsrcY
              simp only at hsrcY
              have hp := List.find?_some hso
              simp only [Bool.and_eq_true, beq_iff_eq] at hp
              rw [← hp.1]
              exact hinv.done j Y (hclos j hp.2) hsrcY
            | none =>
              rw [hso] at hsrcY
              simp only at hsrcY
              refine hinv.old t Y hsrcY (fun j hj hjl hjt => ?_)
              have h8 := List.all_eq_true.1 hsrc i (List.mem_range.2 his)
              simp only [srcOk, hoi] at h8
              have h9 := List.all_eq_true.1 h8 t htm
              rw [hso] at h9
              simp only [Option.isSome_none, Bool.false_or] at h9
              have h10 := List.all_eq_true.1 h9 j (List.mem_range.2 hjl)
              simp only [hjt, beq_self_eq_true, Bool.not_true, Bool.false_or] at h10
              -- then i is done
              have hjl' : j < l.length := by omega
              have hoj : l[j]? = some l[j] := List.getElem?_eq_getElem hjl'
              have := bits_down hdown hlt j l[j] hoj (fun k hk => hdown j l[j] hoj hj k hk) i h10
              rw [hnl] at this; cases this
          have hrun := hqs a w hloc (wpAny P .any l.toArray Q fuel (listed.setIfInBounds i true)) Q (fun v w' hx hv => by
            rw [hdst i oi his hoi]
            have hdi' := hdlt i his
            have hbase := (hinv.base.quiet hx hv hdi')
            have hil : i < listed.size := by rw [hls]; exact (List.getElem?_eq_some_iff.1 hoi).1
            refine ih _ _ _ (by simpa using hls) (fun j hj => ?_) ?_ ?_ ?_
            · rw [getD_set_ne false (by omega)]; exact hhi j hj
            · intro j o' ho' hj k hk
              by_cases hij : i = j
              · subst hij
                rw [hoi] at ho'; obtain rfl := Option.some.inj ho'
                have hki := hlt i oi hoi k hk
                rw [getD_set_ne false (by omega)]; exact hdi k hk
              · rw [getD_set_ne false hij] at hj
                exact getD_set_true (hdown j o' ho' hj k hk)
            · have hfe : ((List.range s).filter (fun j => (listed.setIfInBounds i true).getD j false)).length = ((List.range s).filter (fun j => listed.getD j false)).length + 1 := by
                have hperm : ∀ (r : List Nat), r.Nodup → i ∈ r → (r.filter (fun j => (listed.setIfInBounds i true).getD j false)).length = (r.filter (fun j => listed.getD j false)).length + 1 := by
                  intro r
                  induction r with
                  | nil => intro _ hm; cases hm
                  | cons c r ihr =>
                    intro hndr hm
                    obtain ⟨hc1, hc2⟩ := List.nodup_cons.1 hndr
                    by_cases hci : c = i
                    · subst hci
                      have e1 : (listed.setIfInBounds c true).getD c false = true := by simp [hil]
                      have e2 : r.filter (fun j => (listed.setIfInBounds c true).getD j false) = r.filter (fun j => listed.getD j false) :=
                        List.filter_congr (fun j hj => getD_set_ne false (fun he => hc1 (he ▸ hj)))
                      rw [List.filter_cons_of_pos (p := fun j => (listed.setIfInBounds c true).getD j false) e1, List.filter_cons_of_neg (p := fun j => listed.getD j false) (by rw [hnl]; simp), e2, List.length_cons]
                    · have hmr : i ∈ r := by
                        rcases List.mem_cons.1 hm with h | h
                        · exact absurd h.symm hci
                        · exact h
                      have e1 : (listed.setIfInBounds i true).getD c false = listed.getD c false := getD_set_ne false (fun he => hci he.symm)
                      have := ihr hc2 hmr
                      cases hlc : listed.getD c false with
                      | true => rw [List.filter_cons_of_pos (p := fun j => (listed.setIfInBounds i true).getD j false) (by rw [e1]; exact hlc), List.filter_cons_of_pos (p := fun j => listed.getD j false) hlc, List.length_cons, List.length_cons, this]
                      | false => rw [List.filter_cons_of_neg (p := fun j => (listed.setIfInBounds i true).getD j false) (by rw [e1, hlc]; simp), List.filter_cons_of_neg (p := fun j => listed.getD j false) (by rw [hlc]; simp), this]
                exact hperm _ List.nodup_range (List.mem_range.2 his)
              rw [hfe]; omega
            · have hk : Keeps w (TT e S) w' (TT e S) := hx.keeps (by simp) (fun _ _ h => h)
              refine ⟨⟨hbase.size, hbase.defers, fun t X h => (by simp [find] at h), hbase.res, hbase.nodup, hbase.own, hbase.ext, hbase.glob⟩, ?_, ?_⟩
              · intro j Y hj hY
                by_cases hij : i = j
                · subst hij
                  rw [hX] at hY; obtain rfl := Option.some.inj hY
                  rw [put_getD_same _ _ _ (by rw [hinv.base.size]; exact hdi')]
                  exact hv
                · rw [getD_set_ne false hij] at hj
                  have hjs : j < s := by
                    have := (List.getElem?_eq_some_iff.1 hY).1; omega
                  rw [put_getD_ne _ _ _ _ (hdne i j his hjs hij)]
                  exact Y.mono (hinv.done j Y hj hY) hk
              · intro t Y hY hn
                have hit : ds.getD i 0 ≠ t := hn i (getD_set_self hil) (by omega)
                rw [put_getD_ne _ _ _ _ hit]
                refine Y.mono (hinv.old t Y hY (fun j hj hjl => hn j ?_ hjl)) hk
                by_cases hij : i = j
                · subst hij; exact getD_set_self hil
                · rw [getD_set_ne false hij]; exact hj)
          unfold wpOp
          simp only [hko]
          split
          · rename_i hwn; rw [if_pos hwn] at hrun; exact .inl hrun
          · rename_i hwn; rw [if_neg hwn] at hrun; exact hrun
  refine wp_region_any hm ?_
  have hh' := hh.drew
  have hl0 : ∀ j, (Array.replicate l.toArray.size false).getD j false = false := by intro j; simp [Array.getD]
  refine main _ _ _ _ (by simp) (fun j _ => hl0 j) (fun i o _ h => absurd h (by simp only [hl0]; simp)) ?_ ⟨⟨hh'.size, hh'.defers, fun t X h => (by simp [find] at h), hh'.res, hh'.nodup, hh'.own, hh'.ext, hh'.glob⟩, fun j X h => absurd h (by simp only [hl0]; simp), fun t X hX _ => hh'.slots t X hX⟩
  have : (List.range s).filter (fun j => (Array.replicate l.toArray.size false).getD j false) = [] := List.filter_eq_nil_iff.2 (fun j _ => by rw [hl0]; simp)
  rw [this]; simp
end
end Go.Sep
namespace Go.Sep
open Go
open Enc (V)
def callable (P : Program) (f : FuncId) : Bool :=
  match P.funcs[f]? with
  | some fn => fn.body.isSome && fn.name != "runtime.NumGoroutine"
  | none => false
def Args (w : World) (T : Nat → Prop) : List VP → List Value → Prop
  | [], [] => True
  | X :: Xs, v :: vs => X.rep w T v ∧ Args w T Xs vs
  | _, _ => False
theorem Args.imp {w : World} {T T' : Nat → Prop} (h : ∀ b, T' b → T b) : ∀ {Xs : List VP} {vs : List Value}, Args w T Xs vs → Args w T' Xs vs
  | [], [], _ => trivial
  | X :: _, _ :: _, hh => ⟨X.mono hh.1 (fun b _ hb => ⟨fun h' => hb (h b h'), rfl⟩), Args.imp h hh.2⟩
  | [], _ :: _, hh => hh.elim
  | _ :: _, [], hh => hh.elim
def TA (T : Nat → Prop) (S S' : List Res) : Nat → Prop := fun b => (T b ∧ b ∉ feet S) ∨ b ∈ feet S'
def Fn (P : Program) (f : FuncId) (Xs : List VP) (S : List Res) {ι : Type} (p : ι → Prop) (R : ι → VP) (S' : ι → List Res) : Prop :=
  callable P f = true ∧ ∀ (w : World) (T : Nat → Prop) (vs : List Value), (∀ b, T b → b < w.heap.size) → (∀ b, b ∈ feet S → T b) → (feet S).Nodup → (∀ r, r ∈ S → r.holds w T) → KP P w T → Args w T Xs vs →
    Calls P f vs.toArray w fun ex w' => ∃ i v, p i ∧ ex = .returned v ∧ Ext (feet S) w w' ∧ (feet (S' i)).Nodup ∧ (∀ b, b ∈ feet (S' i) → b ∈ feet S ∨ w.heap.size ≤ b) ∧
      (R i).rep w' (TA T S (S' i)) v ∧ ∀ r, r ∈ S' i → r.holds w' (TA T S (S' i))
def FnP (P : Program) (f : FuncId) (Xs : List VP) (R : VP) : Prop := Fn P f Xs [] (fun _ : Unit => True) (fun _ => R) (fun _ => [])
section
variable {P : Program} {n : Nat} {e : Env P} {G : Ctx} {S S' : List Res} {Q : Exit → Act → World → Prop}
theorem run_callFunc {f : FuncId} (h : callable P f = true) (args : Array Value) (w : World) : (callFunc f args).run P w = .ok (.enter f args) w := by
  unfold callable at h
  cases hf : P.funcs[f]? with
  | none => rw [hf] at h; cases h
  | some fn =>
    rw [hf] at h
    simp only [Bool.and_eq_true, bne_iff_ne, ne_eq] at h
    obtain ⟨c, hc⟩ := Option.isSome_iff_exists.1 h.1
    simp [callFunc, hf, h.2, hc]
theorem ats_args {xs : List Operand} : ∀ {Xs : List VP} {a : Act} {w : World}, Ats G xs Xs → Holds n e G S a w → Args w (TT e S) Xs (xs.map a.eval) := by
  induction xs with
  | nil => intro Xs a w h _; cases Xs with | nil => trivial | cons _ _ => exact h.elim
  | cons x xs ih => intro Xs a w h hh; cases Xs with | nil => exact h.elim | cons X Xs => exact ⟨h.1.rep hh, ih h.2 hh⟩
section
variable {dd : Nat} {d : Option Tmp} {ty : TypeId} {pos : String} {af : Array Edge} {ops : Array Oper} {rest : List Oper} {f : FuncId} {ats : Array TypeId}
theorem call_core {Xs : List VP} {Sc B : List Res} {ι : Type} {p : ι → Prop} {R : ι → VP} {S' : ι → List Res} (hc : Fn P f Xs Sc p R S')
    (hs : Split S Sc B) {a : Act} {w : World} (hh : Holds n e G S a w) {vs : List Value} (ha : Args w (TT e S) Xs vs) :
    Calls P f vs.toArray w fun ex w' => ∃ i v, p i ∧ ex = .returned v ∧ Holds n e G (S' i ++ B) a w' ∧ (R i).rep w' (TT e (S' i ++ B)) v := by
  have hh' := hh.perm hs
  have ht := TT_perm (e := e) hs
  have hnd := hh'.nodup
  rw [feet_append] at hnd
  obtain ⟨hA, hB, hAB⟩ := List.nodup_append.1 hnd
  refine (hc.2 w (TT e S) vs hh.T_lt ?_ hA ?_ hh.glob ha).mono ?_
  · intro b hb; rw [ht]; exact .inr (by rw [feet_append]; exact List.mem_append_left _ hb)
  · intro r hr; rw [ht]; exact hh'.res r (List.mem_append_left _ hr)
  · rintro ex w' ⟨i, v, hp, rfl, hx, hn, hf, hR, hS⟩
    have hTA : TA (TT e S) Sc (S' i) = TT e (S' i ++ B) := by
      funext b
      apply propext
      rw [ht]
      simp only [TA, TT, feet_append, List.mem_append]
      constructor
      · rintro (⟨h1 | h1 | h1, h2⟩ | h1)
        · exact .inl h1
        · exact absurd h1 h2
        · exact .inr (.inr h1)
        · exact .inr (.inl h1)
      · rintro (h1 | h1 | h1)
        · refine .inl ⟨.inl h1, fun h2 => ?_⟩
          exact hh'.apart b (by rw [feet_append]; exact List.mem_append_left _ h2) h1
        · exact .inr h1
        · exact .inl ⟨.inr (.inr h1), fun h2 => hAB b h2 b h1 rfl⟩
    rw [hTA] at hR hS
    exact ⟨i, v, hp, rfl, hh.change hs hx hf hn hS, hR⟩
theorem J_call {xs : List Operand} {Xs : List VP} {Sc B : List Res} {ι : Type} {p : ι → Prop} {R : ι → VP} {S' : ι → List Res} (hc : Fn P f Xs Sc p R S')
    (ha : Ats G xs Xs) (hs : Split S Sc B) (hlt : Nat.blt dd n = true)
    (h : ∀ i, p i → J n e ((dd, R i) :: G) (S' i ++ B) (wpList P ops Q rest)) :
    J n e G S (wpList P ops Q (⟨some dd, .call ⟨.value (.func f), xs.toArray, ats⟩, ty, pos, af, none⟩ :: rest)) := by
  intro a w hh
  have hlt' : dd < n := by simpa [Nat.blt_eq] using hlt
  refine wpList_plain rfl fun K hK => ?_
  unfold Oper.wp
  have hex : (execOp a.eval ⟨some dd, .call ⟨.value (.func f), xs.toArray, ats⟩, ty, pos, af, none⟩).run P w = .ok (.enter f (xs.map a.eval).toArray) w := by
    have : execOp a.eval ⟨some dd, .call ⟨.value (.func f), xs.toArray, ats⟩, ty, pos, af, none⟩ = callFunc f (#[] ++ xs.toArray.map a.eval ++ #[]) := rfl
    rw [this, run_callFunc hc.1]
    simp
  rw [hex, Oper.upon_enter]
  refine (call_core hc hs hh (ats_args ha hh)).mono ?_
  rintro ex w' ⟨i, v, hp, rfl, hh', hR⟩
  exact hK _ _ (h i hp _ _ (hh'.put hR hlt'))
theorem Q_call {xs : List Operand} {Xs : List VP} {R : VP} {g : Option (Nat × Bool)} (hc : FnP P f Xs R) (ha : Ats G xs Xs) :
    Quiet P n e G S ⟨d, .call ⟨.value (.func f), xs.toArray, ats⟩, ty, pos, af, g⟩ R := by
  intro a w hh K Q hK
  unfold Oper.wp
  have hex : (execOp a.eval ⟨d, .call ⟨.value (.func f), xs.toArray, ats⟩, ty, pos, af, g⟩).run P w = .ok (.enter f (xs.map a.eval).toArray) w := by
    have : execOp a.eval ⟨d, .call ⟨.value (.func f), xs.toArray, ats⟩, ty, pos, af, g⟩ = callFunc f (#[] ++ xs.toArray.map a.eval ++ #[]) := rfl
    rw [this, run_callFunc hc.1]
    simp
  rw [hex, Oper.upon_enter]
  refine (hc.2 w (TT e S) (xs.map a.eval) hh.T_lt (by simp) (by simp) (by simp) hh.glob (ats_args ha hh)).mono ?_
  rintro ex w' ⟨i, v, _, rfl, hx, _, _, hR, _⟩
  refine hK v w' (by simpa using hx) ?_
  have : TA (TT e S) [] [] = TT e S := by funext b; simp [TA]
  rw [this] at hR
  exact hR
end
def argCtx : Nat → List VP → Ctx
  | _, [] => []
  | k, X :: Xs => (k, X) :: argCtx (k + 1) Xs
theorem argCtx_find : ∀ {Xs : List VP} {k t : Nat} {X : VP}, find (argCtx k Xs) t = some X → ∃ j, t = k + j ∧ Xs[j]? = some X
  | [], _, _, _, h => by simp [argCtx, find] at h
  | Y :: Xs, k, t, X, h => by
    rw [argCtx, find_cons] at h
    by_cases ht : k = t
    · rw [if_pos ht] at h; exact ⟨0, by omega, by simpa using h⟩
    · rw [if_neg ht] at h
      obtain ⟨j, h1, h2⟩ := argCtx_find h
      exact ⟨j + 1, by omega, by simpa using h2⟩
theorem Args.get {w : World} {T : Nat → Prop} : ∀ {Xs : List VP} {vs : List Value}, Args w T Xs vs → Xs.length = vs.length ∧ ∀ (j : Nat) (X : VP), Xs[j]? = some X → ∃ v, vs[j]? = some v ∧ X.rep w T v
  | [], [], _ => ⟨rfl, fun j X h => by simp at h⟩
  | X :: Xs, v :: vs, hh => by
    obtain ⟨h1, h2⟩ := Args.get hh.2
    refine ⟨by simp [h1], fun j Y hj => ?_⟩
    cases j with
    | zero => simp at hj; subst hj; exact ⟨v, rfl, hh.1⟩
    | succ j => simpa using h2 j Y (by simpa using hj)
  | [], _ :: _, hh => hh.elim
  | _ :: _, [], hh => hh.elim
def Post {P : Program} (e : Env P) {ι : Type} (p : ι → Prop) (R : ι → VP) (S' : ι → List Res) : Ending → World → Prop :=
  fun ex w' => ∃ i v, p i ∧ ex = .returned v ∧ Ext e.M e.w0 w' ∧ (feet (S' i)).Nodup ∧ (∀ b, b ∈ feet (S' i) → b ∈ e.M ∨ e.w0.heap.size ≤ b) ∧ (R i).rep w' (TT e (S' i)) v ∧ ∀ r, r ∈ S' i → r.holds w' (TT e (S' i))
theorem Fn_intro {f : FuncId} {fn : Func} {c : Code} {Xs : List VP} {ι : Type} {p : ι → Prop} {R : ι → VP} {S' : ι → List Res} (hcall : callable P f = true) (hf : P.funcs[f]? = some fn) (hb : fn.body = some c) (hn : fn.ntmps = n) (hle : Nat.ble Xs.length n = true)
    (h : ∀ e : Env P, J n e (argCtx 0 Xs) S (c.wp P (bodyPost P fn (Post e p R S')))) : Fn P f Xs S p R S' := by
  refine ⟨hcall, fun w T vs hT hS hnd hres hK ha => ?_⟩
  obtain ⟨hlen, hget⟩ := ha.get
  have hle' : Xs.length ≤ n := by simpa [Nat.ble_eq] using hle
  let e : Env P := { w0 := w, T0 := fun b => T b ∧ b ∉ feet S, M := feet S, t0 := fun b hb => ⟨hT b hb.1, hb.2⟩ }
  have hTT : TT e S = T := by
    funext b
    apply propext
    simp only [TT, e]
    constructor
    · rintro (h1 | h1)
      · exact h1.1
      · exact hS b h1
    · intro h1
      by_cases h2 : b ∈ feet S
      · exact .inr h2
      · exact .inl ⟨h1, h2⟩
  refine (calls_of_wp (R := Post e p R S') hf hb ?_).mono ?_
  · refine h e _ w ⟨?_, rfl, ?_, ?_, hnd, fun b hb => .inl hb, Ext.refl _ _, by rw [hTT]; exact hK⟩
    · simp [hn]; omega
    · intro t X hX
      obtain ⟨j, h1, h2⟩ := argCtx_find hX
      obtain ⟨v, h3, h4⟩ := hget j X h2
      rw [hTT]
      have hjl : j < vs.length := (List.getElem?_eq_some_iff.1 h3).1
      have : (vs.toArray ++ Array.replicate (fn.ntmps - vs.toArray.size) undef).getD t undef = v := by
        rw [h1, Nat.zero_add, Array.getD_eq_getD_getElem?, Array.getElem?_append_left (by simpa using hjl)]
        simp [h3]
      rw [this]; exact h4
    · intro r hr; rw [hTT]; exact hres r hr
  · rintro ex w' ⟨i, v, h1, h2, h3, h4, h5, h6, h7⟩
    exact ⟨i, v, h1, h2, h3, h4, h5, h6, h7⟩
theorem FnP_intro {f : FuncId} {fn : Func} {c : Code} {Xs : List VP} {R : VP} (hcall : callable P f = true) (hf : P.funcs[f]? = some fn) (hb : fn.body = some c) (hn : fn.ntmps = n) (hle : Nat.ble Xs.length n = true)
    (h : ∀ e : Env P, J n e (argCtx 0 Xs) [] (c.wp P (bodyPost P fn (Post e (fun _ : Unit => True) (fun _ => R) (fun _ => []))))) : FnP P f Xs R := Fn_intro hcall hf hb hn hle h
theorem FnP.imp {f : FuncId} {Xs : List VP} {R R' : VP} (h : FnP P f Xs R) (hr : ∀ w T v, R.rep w T v → R'.rep w T v) : FnP P f Xs R' :=
  ⟨h.1, fun w T vs h1 h2 h3 h4 h5 h6 => (h.2 w T vs h1 h2 h3 h4 h5 h6).mono fun _ _ ⟨i, v, a1, a2, a3, a4, a5, a6, a7⟩ => ⟨i, v, a1, a2, a3, a4, a5, hr _ _ _ a6, a7⟩⟩
theorem Holds.part {a : Act} {w : World} {A B : List Res} (hh : Holds n e G S a w) (hs : Split S A B) :
    (feet A).Nodup ∧ (∀ b, b ∈ feet A → b ∈ e.M ∨ e.w0.heap.size ≤ b) ∧ (∀ X : VP, ∀ v, X.rep w (TT e S) v → X.rep w (TT e A) v) ∧ ∀ r, r ∈ A → r.holds w (TT e A) := by
  have hh' := hh.perm hs
  have ht := TT_perm (e := e) hs
  have hnd := hh'.nodup
  rw [feet_append] at hnd
  have hT : ∀ b, TT e A b → TT e S b := by
    intro b hb
    rw [ht]
    rcases hb with hb | hb
    · exact .inl hb
    · exact .inr (by rw [feet_append]; exact List.mem_append_left _ hb)
  refine ⟨(List.nodup_append.1 hnd).1, fun b hb => hh'.own b (by rw [feet_append]; exact List.mem_append_left _ hb), fun X v hv => X.mono hv (fun b _ hb => ⟨fun h => hb (hT b h), rfl⟩), fun r hr => ?_⟩
  exact r.mono (hh'.res r (List.mem_append_left _ hr)) (fun _ _ _ => rfl) (fun b _ hb h => hb (by rw [← ht]; exact hT b h))
def resRun (tmps : Array Value) : ResultVar → Sem Value
  | .tmp t => pure (tmps.getD t undef)
  | .cell a t => do loadVar t (← asAddr (tmps.getD a undef))
def ResAt (P : Program) (n : Nat) (e : Env P) (G : Ctx) (S : List Res) (r : ResultVar) (X : VP) : Prop :=
  ∀ a w, Holds n e G S a w → ∃ v, (resRun a.tmps r).run P w = .ok v w ∧ X.rep w (TT e S) v
theorem ResAt.tmp {t : Tmp} {X : VP} (h : find G t = some X) : ResAt P n e G S (.tmp t) X := fun _ _ hh => ⟨_, rfl, hh.slots t X h⟩
theorem ResAt.imp {r : ResultVar} {X Y : VP} (h : ResAt P n e G S r X) (hxy : ∀ w T v, X.rep w T v → Y.rep w T v) : ResAt P n e G S r Y :=
  fun a w hh => let ⟨v, h1, h2⟩ := h a w hh; ⟨v, h1, hxy _ _ _ h2⟩
theorem ResAt.box {α : Type} [Enc α] {p : Tmp} {t tb b : Nat} {z : α} {S' : List Res} (h : find G p = some (Ptr b 0)) (hm : Repl S (BoxR tb b z) [] S') (hT : GoT P t α) : ResAt P n e G S (.cell p t) (V z) := by
  intro a w hh
  have h1 : a.tmps.getD p undef = .pointer (some ⟨b, 0, none⟩) := hh.slots p _ h
  obtain ⟨l, h2, h3⟩ := hh.res _ hm.mem
  refine ⟨_, ?_, Enc.toV h3⟩
  simp only [resRun, h1, asAddr, Sem.run_bind, Sem.run_pure, Result.andThen_ok]
  exact run_loadVar_cells hT h3 (reads_box h2)
theorem run_results1 {fn : Func} {r : ResultVar} {tmps : Array Value} {w : World} {v : Value} (h : fn.results = #[r]) (h1 : (resRun tmps r).run P w = .ok v w) : (results fn tmps).run P w = .ok v w := by
  have e0 : results fn tmps = (do let vs ← fn.results.mapM (resRun tmps); pure (if h : vs.size = 1 then vs[0] else .tuple vs)) := rfl
  rw [e0, h]; simp [h1]
theorem run_results2 {fn : Func} {r s : ResultVar} {tmps : Array Value} {w : World} {v u : Value} (h : fn.results = #[r, s]) (h1 : (resRun tmps r).run P w = .ok v w) (h2 : (resRun tmps s).run P w = .ok u w) :
    (results fn tmps).run P w = .ok (.tuple #[v, u]) w := by
  have e0 : results fn tmps = (do let vs ← fn.results.mapM (resRun tmps); pure (if h : vs.size = 1 then vs[0] else .tuple vs)) := rfl
  rw [e0, h]; simp [Sem.run_bind, h1, h2]
theorem run_results3 {fn : Func} {r s q : ResultVar} {tmps : Array Value} {w : World} {v u x : Value} (h : fn.results = #[r, s, q]) (h1 : (resRun tmps r).run P w = .ok v w) (h2 : (resRun tmps s).run P w = .ok u w) (h3 : (resRun tmps q).run P w = .ok x w) :
    (results fn tmps).run P w = .ok (.tuple #[v, u, x]) w := by
  have e0 : results fn tmps = (do let vs ← fn.results.mapM (resRun tmps); pure (if h : vs.size = 1 then vs[0] else .tuple vs)) := rfl
  rw [e0, h]; simp [Sem.run_bind, h1, h2, h3]
theorem run_results0 {fn : Func} {tmps : Array Value} {w : World} (h : fn.results = #[]) : (results fn tmps).run P w = .ok (.tuple #[]) w := by
  have e0 : results fn tmps = (do let vs ← fn.results.mapM (resRun tmps); pure (if h : vs.size = 1 then vs[0] else .tuple vs)) := rfl
  rw [e0, h]; simp
section
variable {fn : Func} {ι : Type} {p : ι → Prop} {R : ι → VP} {S' : ι → List Res} {B : List Res} {X Y Z : VP} {r s q : ResultVar}
theorem J_resv {a : Act} {w : World} {v : Value} (hrun : (results fn a.tmps).run P w = .ok v w) (hh : Holds n e G S a w) (i : ι) (hp : p i) (hs : Split S (S' i) B) (hv : (R i).rep w (TT e S) v) :
    bodyPost P fn (Post e p R S') .ret a w ∧ bodyPost P fn (Post e p R S') .normal a w := by
  obtain ⟨h1, h2, h3, h4⟩ := hh.part hs
  have : a.defers = [] ∧ ∃ v, (results fn a.tmps).run P w = .ok v w ∧ Post e p R S' (.returned v) w := ⟨hh.defers, v, hrun, i, v, hp, rfl, hh.ext, h1, h2, h3 _ _ hv, h4⟩
  exact ⟨this, this⟩
theorem J_ret1 (hr : fn.results = #[r]) (hx : ResAt P n e G S r X) (i : ι) (hp : p i) (hs : Split S (S' i) B) (hi : ∀ w T v, X.rep w T v → (R i).rep w T v) :
    J n e G S (bodyPost P fn (Post e p R S') .ret) := by
  intro a w hh
  obtain ⟨v, h1, h2⟩ := hx a w hh
  exact (J_resv (run_results1 hr h1) hh i hp hs (hi _ _ _ h2)).1
theorem tup2 {w : World} {T : Nat → Prop} {v u : Value} (h1 : X.rep w T v) (h2 : Y.rep w T u) : (VTup [X, Y]).rep w T (.tuple #[v, u]) :=
  ⟨[v, u], rfl, rfl, fun i X' u' hx hu => by
    match i with
    | 0 => simp at hx hu; subst hx; subst hu; exact h1
    | 1 => simp at hx hu; subst hx; subst hu; exact h2
    | i + 2 => simp at hx⟩
theorem tup3 {w : World} {T : Nat → Prop} {v u x : Value} (h1 : X.rep w T v) (h2 : Y.rep w T u) (h3 : Z.rep w T x) : (VTup [X, Y, Z]).rep w T (.tuple #[v, u, x]) :=
  ⟨[v, u, x], rfl, rfl, fun i X' u' hx hu => by
    match i with
    | 0 => simp at hx hu; subst hx; subst hu; exact h1
    | 1 => simp at hx hu; subst hx; subst hu; exact h2
    | 2 => simp at hx hu; subst hx; subst hu; exact h3
    | i + 3 => simp at hx⟩
theorem J_ret2 (hr : fn.results = #[r, s]) (hx : ResAt P n e G S r X) (hy : ResAt P n e G S s Y) (i : ι) (hp : p i) (hs : Split S (S' i) B) (hi : ∀ w T v, (VTup [X, Y]).rep w T v → (R i).rep w T v) :
    J n e G S (bodyPost P fn (Post e p R S') .ret) := by
  intro a w hh
  obtain ⟨v, h1, h2⟩ := hx a w hh
  obtain ⟨u, h3, h4⟩ := hy a w hh
  exact (J_resv (run_results2 hr h1 h3) hh i hp hs (hi _ _ _ (tup2 h2 h4))).1
theorem J_ret3 (hr : fn.results = #[r, s, q]) (hx : ResAt P n e G S r X) (hy : ResAt P n e G S s Y) (hz : ResAt P n e G S q Z) (i : ι) (hp : p i) (hs : Split S (S' i) B) (hi : ∀ w T v, (VTup [X, Y, Z]).rep w T v → (R i).rep w T v) :
    J n e G S (bodyPost P fn (Post e p R S') .ret) := by
  intro a w hh
  obtain ⟨v, h1, h2⟩ := hx a w hh
  obtain ⟨u, h3, h4⟩ := hy a w hh
  obtain ⟨x, h5, h6⟩ := hz a w hh
  exact (J_resv (run_results3 hr h1 h3 h5) hh i hp hs (hi _ _ _ (tup3 h2 h4 h6))).1
theorem J_end0 (hr : fn.results = #[]) (i : ι) (hp : p i) (hs : Split S (S' i) B) (hi : ∀ w T, (R i).rep w T (.tuple #[])) : J n e G S (bodyPost P fn (Post e p R S') .normal) := by
  intro a w hh
  exact (J_resv (run_results0 hr) hh i hp hs (hi _ _)).2
theorem J_ret0 (hr : fn.results = #[]) (i : ι) (hp : p i) (hs : Split S (S' i) B) (hi : ∀ w T, (R i).rep w T (.tuple #[])) : J n e G S (bodyPost P fn (Post e p R S') .ret) := by
  intro a w hh
  exact (J_resv (run_results0 hr) hh i hp hs (hi _ _)).1
end
theorem imp_refl {X : VP} : ∀ (w : World) (T : Nat → Prop) (v : Value), X.rep w T v → X.rep w T v := fun _ _ _ h => h
end
end Go.Sep
namespace Go.Sep
open Go
open Enc (V)
section
variable {P : Program}
def u8v (x : UInt8) : Value := .int .u8 (x.toNat : Nat)
theorem u8v_inj {x y : UInt8} : ((x.toNat : Int) == (y.toNat : Int)) = decide (x = y) := by
  rw [beq_dec]
  by_cases h : x = y
  · simp [h]
  · have : x.toNat ≠ y.toNat := fun he => h (UInt8.toNat_inj.1 he)
    simp [h]; omega
theorem part_u8 {el : TypeId} (he : P.underlying el = some (.int .u8)) (xs : List UInt8) (i : Nat) (hi : i < xs.length) (w : World) : (part el (xs.map u8v).toArray i).run P w = .ok (u8v xs[i]) w := by
  have ha : (isAgg el).run P w = .ok false w := by simp [isAgg, Sem.run_bind, run_underlying he]
  unfold part
  simp only [Sem.run_bind, ha, Result.andThen_ok]
  simp [hi]
theorem run_equal_arr {d : Nat} {t el : TypeId} {m : Nat} (ht : P.underlying t = some (.array m el)) (he : P.underlying el = some (.int .u8)) (hs : (P.info? el).map (·.size) = some 1) (xs ys : List UInt8)
    (hx : xs.length = m) (hy : ys.length = m) (w : World) : (Op.equalIn (d + 2) t (.agg (xs.map u8v).toArray) (.agg (ys.map u8v).toArray)).run P w = .ok (decide (xs = ys)) w := by
  rw [Op.equalIn]
  simp only [Sem.run_bind, run_underlying ht, Result.andThen_ok, run_sizeOf hs, Std.Legacy.Range.forIn_eq_forIn_range', Std.Legacy.Range.size, Nat.sub_zero, Nat.add_one_sub_one, Nat.div_one]
  have key : ∀ (r k : Nat), k + r = m → (Sem.run P (forIn (List.range' k r) ((none : Option Bool), ()) fun i __s => do
            let a ← part el (xs.map u8v).toArray (i * 1)
            let b ← part el (ys.map u8v).toArray (i * 1)
            let c ← Op.equalIn (d + 1) el a b
            if (!c) = true then pure (ForInStep.done (some false, ())) else pure (ForInStep.yield (none, ()))) w) =
        .ok (if xs.drop k = ys.drop k then (none, ()) else (some false, ())) w := by
    intro r
    induction r with
    | zero =>
      intro k hk
      rw [List.drop_eq_nil_of_le (by omega), List.drop_eq_nil_of_le (by omega)]
      simp
    | succ r ih =>
      intro k hk
      have h1 := part_u8 (P := P) he xs k (by omega) w
      have h2 := part_u8 (P := P) he ys k (by omega) w
      have h3 : (Op.equalIn (d + 1) el (u8v xs[k]) (u8v ys[k])).run P w = .ok (decide (xs[k] = ys[k])) w := by
        unfold u8v; rw [run_equalIn_int w d el .u8 .u8 _ _ he, u8v_inj]
      rw [List.range'_succ]
      simp only [List.forIn_cons, Nat.mul_one, Sem.run_bind, h1, h2, h3, Result.andThen_ok]
      have e : (xs.drop k = ys.drop k) ↔ (xs[k] = ys[k] ∧ xs.drop (k + 1) = ys.drop (k + 1)) := by
        rw [List.drop_eq_getElem_cons (show k < xs.length by omega), List.drop_eq_getElem_cons (show k < ys.length by omega), List.cons.injEq]
      by_cases hc : xs[k] = ys[k]
      · have h9 := ih (k + 1) (by omega)
        simp only [Nat.mul_one] at h9
        rw [decide_eq_true hc]
        simp only [Bool.not_true, Bool.false_eq_true, if_false, Sem.run_pure, Result.andThen_ok, e, hc, true_and]
        exact h9
      · rw [decide_eq_false hc]
        simp [e, hc]
  have := key m 0 (by omega)
  simp only [List.drop_zero] at this
  rw [this]
  by_cases h : xs = ys <;> simp [h]
theorem cpl_u8 : ∀ {l : List UInt8} {w : World} {T : Nat → Prop} {xs : List Value}, (cpl l).rep w T xs → xs = l.map u8v
  | [], _, _, _, h => h
  | x :: l, _, _, _, ⟨a, b, h, ha, hb⟩ => by
    have h1 := cpl_u8 hb
    obtain rfl : a = [u8v x] := ha
    subst h1; subst h; rfl
theorem cpl_u8_mk : ∀ {l : List UInt8} {w : World} {T : Nat → Prop}, (cpl l).rep w T (l.map u8v)
  | [], _, _ => rfl
  | x :: _, _, _ => ⟨[u8v x], _, rfl, rfl, cpl_u8_mk⟩
abbrev Oid := Arr 20 UInt8
def Oid.val (x : Oid) : Value := .agg (x.l.map u8v).toArray
theorem oid_val {m : Nat} {z : Arr m UInt8} {w : World} {T : Nat → Prop} {v : Value} (h : (V z).rep w T v) : v = .agg (z.l.map u8v).toArray := by
  obtain ⟨l, h1, h2⟩ := h
  rw [cpl_u8 h1] at h2; exact h2
def fieldInfo (P : Program) (s : TypeId) (f : Nat) : Option (Nat × Nat × Nat) :=
  match P.underlying s with
  | some (.struct fs) => match fs[f]? with
    | some fl => (P.info? fl.type).map fun i => (fl.offset, fl.type, i.size)
    | none => none
  | _ => none
theorem fieldInfo_spec {s f off ft sz : Nat} (h : fieldInfo P s f = some (off, ft, sz)) :
    ∃ fs fl, P.underlying s = some (.struct fs) ∧ fs[f]? = some fl ∧ fl.offset = off ∧ fl.type = ft ∧ (P.info? ft).map (·.size) = some sz := by
  unfold fieldInfo at h
  split at h
  · rename_i fs hs
    split at h
    · rename_i fl hf
      cases hi : P.info? fl.type with
      | none => rw [hi] at h; cases h
      | some i =>
        rw [hi] at h
        simp at h
        obtain ⟨h1, h2, h3⟩ := h
        exact ⟨fs, fl, hs, hf, h1, h2, by rw [← h2, hi]; simp [h3]⟩
    · cases h
  · cases h
theorem run_part_cells {β : Type} [Enc β] {ft off : Nat} (hT : GoT P ft β) {z : β} {w : World} {T : Nat → Prop} {l : List Value} (_hc : (Enc.cp z).rep w T ((l.drop off).take (Enc.size β))) (hf : off + Enc.size β ≤ l.length) :
    (part ft l.toArray off).run P w = .ok (ofCells (Enc.agg β) ((l.drop off).take (Enc.size β))) w := by
  unfold part
  simp only [Sem.run_bind, run_isAgg hT.agg, Result.andThen_ok]
  cases ha : Enc.agg β with
  | true =>
    simp [run_sizeOf hT.size, ofCells]
  | false =>
    have hs := Enc.nagg (α := β) ha
    rw [hs] at hf ⊢
    have hlt : off < l.length := by omega
    have e1 : (l.drop off).take 1 = [l[off]] := by rw [List.drop_eq_getElem_cons hlt]; rfl
    rw [e1]
    simp [hlt, ofCells]
end
section
variable {P : Program} {n : Nat} {e : Env P} {G : Ctx} {S S' : List Res} {Q : Exit → Act → World → Prop}
variable {α β : Type} [Enc α] [Enc β] {d : Option Tmp} {dd : Nat} {t t2 : TypeId} {x y : Operand} {ty : TypeId} {pos : String} {af : Array Edge} {g : Option (Nat × Bool)}
theorem run_eqGuard_arr {op : BinOp} {x y : Operand} {u v : Array Value} {w : World} (hg : P.eqGuardType P.depth t = false) : (eqGuard op t x y (.agg u) (.agg v)).run P w = .ok () w := by
  cases op <;> simp [eqGuard, hg]
theorem Q_eqlA {m el : Nat} {u v : Arr m UInt8} (ht : P.underlying t = some (.array m el)) (he : P.underlying el = some (.int .u8)) (hs : (P.info? el).map (·.size) = some 1) (hg : P.eqGuardType P.depth t = false)
    (hx : At G x (V u)) (hy : At G y (V v)) : Quiet P n e G S ⟨d, .binOp .eql t x y t2, ty, pos, af, g⟩ (VBool (decide (u = v))) :=
  Q_bin hx hy fun w T a b ha hb => by
    obtain rfl := oid_val ha
    obtain rfl := oid_val hb
    refine ⟨_, run_eqGuard_arr hg, ?_, rfl⟩
    have h1 := run_equal_arr (P := P) (d := 9998) ht he hs u.l v.l u.h v.h w
    have h2 : decide (u.l = v.l) = decide (u = v) := by congr 1; apply propext; exact ⟨Arr.ext', fun h => by rw [h]⟩
    rw [h2] at h1
    simp only [binOp, Op.equal, Op.maxDepth, Sem.run_bind, h1, Result.andThen_ok, Sem.run_pure]
theorem Q_neqA {m el : Nat} {u v : Arr m UInt8} (ht : P.underlying t = some (.array m el)) (he : P.underlying el = some (.int .u8)) (hs : (P.info? el).map (·.size) = some 1) (hg : P.eqGuardType P.depth t = false)
    (hx : At G x (V u)) (hy : At G y (V v)) : Quiet P n e G S ⟨d, .binOp .neq t x y t2, ty, pos, af, g⟩ (VBool (decide (u ≠ v))) :=
  Q_bin hx hy fun w T a b ha hb => by
    obtain rfl := oid_val ha
    obtain rfl := oid_val hb
    refine ⟨_, run_eqGuard_arr hg, ?_, rfl⟩
    have h1 := run_equal_arr (P := P) (d := 9998) ht he hs u.l v.l u.h v.h w
    have h2 : decide (u.l = v.l) = decide (u = v) := by congr 1; apply propext; exact ⟨Arr.ext', fun h => by rw [h]⟩
    rw [h2] at h1
    simp only [binOp, Op.equal, Op.maxDepth, Sem.run_bind, h1, Result.andThen_ok, Sem.run_pure]
    simp
theorem Q_fieldAddrP {f off ft sz b o : Nat} (hf : fieldInfo P t f = some (off, ft, sz)) (hz : sz ≠ 0) (hx : At G x (Ptr b o)) : Quiet P n e G S ⟨d, .fieldAddr t x f, ty, pos, af, g⟩ (Ptr b (o + off)) :=
  Q_of_run fun a w hh => by
    have h1 : a.eval x = .pointer (some ⟨b, o, none⟩) := hx.rep hh
    obtain ⟨fs, fl, k1, k2, k3, k4, k5⟩ := fieldInfo_spec hf
    refine ⟨.pointer (some ⟨b, o + off, none⟩), w, ?_, Ext.refl _ _, rfl⟩
    simp [execOp, h1, Instr.fieldAt, run_underlying k1, k2, Instr.sureAddr, fieldPlace, k4, run_sizeOf k5, hz, k3, addr_add]
theorem Q_fieldAddrI {f off ft sz : Nat} {z : α} {get : α → β} {set : α → β → α} (hf : fieldInfo P t f = some (off, ft, sz)) (hz : sz ≠ 0) (L : Lens α β off get set) (hx : At G x (PtrTo z)) :
    Quiet P n e G S ⟨d, .fieldAddr t x f, ty, pos, af, g⟩ (PtrTo (get z)) :=
  Q_of_run fun a w hh => by
    obtain ⟨b, o, l, h1, h2, h3, h4, h5⟩ := hx.rep hh
    obtain ⟨fs, fl, k1, k2, k3, k4, k5⟩ := fieldInfo_spec hf
    refine ⟨.pointer (some ⟨b, o + off, none⟩), w, ?_, Ext.refl _ _, ⟨b, _, _, rfl, h2, h3, L.get_ok h4, h5.sub _ _⟩⟩
    simp [execOp, h1, Instr.fieldAt, run_underlying k1, k2, Instr.sureAddr, fieldPlace, k4, run_sizeOf k5, hz, k3, addr_add]
theorem Q_idxAddrP {m el sz b o : Nat} {k : IntKind} {i : Int} (ht : P.underlying t = some (.array m el)) (hs : (P.info? el).map (·.size) = some sz) (hx : At G x (Ptr b o)) (hy : At G y (VInt k i)) (h0 : 0 ≤ i) (h1 : i < m) :
    Quiet P n e G S ⟨d, .indexAddr t x y, ty, pos, af, g⟩ (Ptr b (o + i.toNat * sz)) :=
  Q_of_run fun a w hh => by
    have hx' : a.eval x = .pointer (some ⟨b, o, none⟩) := hx.rep hh
    have hy' : a.eval y = .int k i := hy.rep hh
    refine ⟨.pointer (some ⟨b, o + i.toNat * sz, none⟩), w, ?_, Ext.refl _ _, rfl⟩
    simp only [execOp, hx', hy', Instr.indexAt, asIntOf, Sem.run_bind, Sem.run_pure, Result.andThen_ok, run_underlying ht, Instr.sureAddr, run_sizeOf hs, addr_add, if_pos (And.intro h0 h1)]
theorem Q_idxAddrAI {m el : Nat} {k : IntKind} {i : Int} {z : Arr m β} (ht : P.underlying t = some (.array m el)) (hs : (P.info? el).map (·.size) = some (Enc.size β)) (hx : At G x (PtrTo z)) (hy : At G y (VInt k i)) (h0 : 0 ≤ i) (h1 : i.toNat < m) :
    Quiet P n e G S ⟨d, .indexAddr t x y, ty, pos, af, g⟩ (PtrTo (z.get i.toNat h1)) :=
  Q_of_run fun a w hh => by
    obtain ⟨b, o, l, e1, e2, e3, e4, e5⟩ := hx.rep hh
    have hy' : a.eval y = .int k i := hy.rep hh
    have hlt : i < (m : Int) := by omega
    refine ⟨.pointer (some ⟨b, o + i.toNat * Enc.size β, none⟩), w, ?_, Ext.refl _ _, ⟨b, _, _, rfl, e2, e3, cpl_get e4 i.toNat (by rw [z.h]; exact h1), e5.sub _ _⟩⟩
    simp only [execOp, e1, hy', Instr.indexAt, asIntOf, Sem.run_bind, Sem.run_pure, Result.andThen_ok, run_underlying ht, Instr.sureAddr, run_sizeOf hs, addr_add, if_pos (And.intro h0 hlt)]
theorem Q_indexA {m el : Nat} {k : IntKind} {i : Int} {z : Arr m β} (ht : P.underlying t = some (.array m el)) (hT : GoT P el β) (hx : At G x (V z)) (hy : At G y (VInt k i)) (h0 : 0 ≤ i) (h1 : i.toNat < m) :
    Quiet P n e G S ⟨d, .index t x y, ty, pos, af, g⟩ (V (z.get i.toNat h1)) :=
  Q_of_run fun a w hh => by
    obtain ⟨l, e1, e2⟩ := hx.rep hh
    have hy' : a.eval y = .int k i := hy.rep hh
    have hlt : i < (m : Int) := by omega
    have hl := cpl_len e1
    rw [z.h] at hl
    have hg := cpl_get e1 i.toNat (by rw [z.h]; exact h1)
    have hfit : i.toNat * Enc.size β + Enc.size β ≤ l.length := by
      rw [hl]
      have : (i.toNat + 1) * Enc.size β ≤ m * Enc.size β := Nat.mul_le_mul_right _ h1
      rw [Nat.add_mul] at this; omega
    refine ⟨_, w, ?_, Ext.refl _ _, Enc.toV hg⟩
    have hp := run_part_cells (P := P) hT hg hfit
    simp only [execOp, e2, hy', Instr.index, asIntOf, Sem.run_bind, Sem.run_pure, Result.andThen_ok, run_underlying ht, if_pos (And.intro h0 hlt), run_sizeOf hT.size, hp]
theorem Q_sliceA {m el : Nat} {z : Arr m β} {lo hi : Option Operand} {i j : Int} (ht : P.underlying t = some (.array m el)) (hs : (P.info? el).map (·.size) = some (Enc.size β)) (hm : m ≤ maxLen) (hx : At G x (PtrTo z))
    (hlo : match lo with | none => i = 0 | some o => ∃ k, At G o (VInt k i)) (hhi : match hi with | none => j = m | some o => ∃ k, At G o (VInt k j))
    (h0 : 0 ≤ i) (h1 : i ≤ j) (h2 : j ≤ m) :
    Quiet P n e G S ⟨d, .slice t x lo hi none, ty, pos, af, g⟩ (Sl ((z.l.take j.toNat).drop i.toNat)) :=
  Q_of_run fun a w hh => by
    obtain ⟨b, o, xs, e1, e2, e3, e4, e5⟩ := hx.rep hh
    have hzl := z.h
    have hlen : ((z.l.take j.toNat).drop i.toNat).length = j.toNat - i.toNat := by simp; omega
    have hcp : (cpl ((z.l.take j.toNat).drop i.toNat)).rep w (TT e S) ((xs.take (j.toNat * Enc.size β)).drop (i.toNat * Enc.size β)) :=
      (cpl_take (cpl_take e4 j.toNat (by omega)).1 i.toNat (by simp; omega)).2
    have hrd := e5.sub (i.toNat * Enc.size β) ((j.toNat - i.toNat) * Enc.size β)
    have e9 : (xs.drop (i.toNat * Enc.size β)).take ((j.toNat - i.toNat) * Enc.size β) = (xs.take (j.toNat * Enc.size β)).drop (i.toNat * Enc.size β) := by
      rw [List.drop_take, Nat.sub_mul]
    rw [e9] at hrd
    refine ⟨.slice (some (if m = i.toNat then ⟨b, o, none⟩ else ⟨b, o + i.toNat * Enc.size β, none⟩)) (j.toNat - i.toNat) (m - i.toNat), w, ?_, Ext.refl _ _,
      ⟨_, m - i.toNat, _, by rw [hlen], by rw [hlen]; omega, by omega, (fun h => by cases h), hcp, fun hne => ?_⟩⟩
    · have hb1 : ∀ (k : IntKind) (cd : BoundsCode), (Instr.sliceBound (.int k j) m cd).run P w = .ok j.toNat w := fun k cd => run_sliceBound w k j _ cd (by omega) (by omega)
      have hb0 : ∀ (k : IntKind) (cd : BoundsCode), (Instr.sliceBound (.int k i) j.toNat cd).run P w = .ok i.toNat w := fun k cd => run_sliceBound w k i _ cd h0 (by omega)
      have hb0l : j = m → ∀ (k : IntKind) (cd : BoundsCode), (Instr.sliceBound (.int k i) m cd).run P w = .ok i.toNat w := fun hj k cd => run_sliceBound w k i _ cd h0 (by omega)
      cases lo with
      | none =>
        have hi0 : i = 0 := hlo
        subst hi0
        cases hi with
        | none =>
          have hj : j = m := hhi
          subst hj
          simp [execOp, e1, Instr.sliceAt, Instr.sureAddr, Instr.sliceBounds, run_underlying ht, run_sizeOf hs, addr_add]
        | some oo =>
          obtain ⟨k, hk⟩ := hhi
          have hk' : a.eval oo = .int k j := hk.rep hh
          simp [execOp, e1, hk', Instr.sliceAt, Instr.sureAddr, Instr.sliceBounds, run_underlying ht, hb1, run_sizeOf hs, addr_add]
      | some oo =>
        obtain ⟨k, hk⟩ := hlo
        have hk' : a.eval oo = .int k i := hk.rep hh
        cases hi with
        | none =>
          have hj : j = m := hhi
          have hb := hb0l hj
          subst hj
          simp [execOp, e1, hk', Instr.sliceAt, Instr.sureAddr, Instr.sliceBounds, run_underlying ht, hb, run_sizeOf hs, addr_add]
        | some h =>
          obtain ⟨k', hkk⟩ := hhi
          have hkk' : a.eval h = .int k' j := hkk.rep hh
          simp [execOp, e1, hk', hkk', Instr.sliceAt, Instr.sureAddr, Instr.sliceBounds, run_underlying ht, hb0, hb1, run_sizeOf hs, addr_add]
    · have hpos : 0 < j.toNat - i.toNat := by rw [← hlen]; exact List.length_pos_iff.2 hne
      exact ⟨b, o + i.toNat * Enc.size β, by rw [if_neg (by omega)], e2, e3, hrd⟩
theorem Q_toArr {m el : Nat} {l : List β} (ht : P.underlying t = some (.array m el)) (hx : At G x (Sl l)) (hm : m ≤ l.length) (h0 : 0 < m) :
    Quiet P n e G S ⟨d, .sliceToArrayPointer t x, ty, pos, af, g⟩ (PtrTo (⟨l.take m, by rw [List.length_take]; omega⟩ : Arr m β)) :=
  Q_of_run fun a w hh => by
    obtain ⟨ad, c, xs, e1, e2, e3, e4, e5, e6⟩ := hx.rep hh
    obtain ⟨b, off, rfl, h2, h3, h4⟩ := e6 (by intro hn; rw [hn] at hm; simp at hm; omega)
    have hnl : ¬ l.length < m := by omega
    refine ⟨.pointer (some ⟨b, off, none⟩), w, ?_, Ext.refl _ _, ⟨b, off, _, rfl, h2, h3, (cpl_take e5 m hm).1, by simpa using h4.sub 0 (m * Enc.size β)⟩⟩
    simp [execOp, e1, Instr.arrayAt, run_underlying ht, hnl]
theorem Q_nilChk {v : Value} (hx : At G x (Is v)) (hv : ∃ a, v = .pointer (some a)) : Quiet P n e G S ⟨d, .nilCheck x, ty, pos, af, g⟩ (Is v) :=
  Q_of_run fun a w hh => by
    have h1 : a.eval x = v := hx.rep hh
    obtain ⟨ad, rfl⟩ := hv
    exact ⟨_, w, by simp [execOp, h1], Ext.refl _ _, rfl⟩
theorem Q_nilChkP {b o : Nat} (hx : At G x (Ptr b o)) : Quiet P n e G S ⟨d, .nilCheck x, ty, pos, af, g⟩ (Ptr b o) := Q_nilChk hx ⟨_, rfl⟩
theorem Q_toStr {el : Nat} {l : List UInt8} {src dst : TypeId} (hs : P.underlying src = some (.slice el)) (he : P.underlying el = some (.int .u8)) (hd : P.underlying dst = some .string) (hx : At G x (Sl l)) :
    Quiet P n e G S ⟨d, .convert src dst x, ty, pos, af, g⟩ (VStr l) :=
  Q_of_run fun a w hh => by
    obtain ⟨ad, c, xs, e1, e2, e3, e4, e5, e6⟩ := hx.rep hh
    refine ⟨.string (bs l), w, ?_, Ext.refl _ _, rfl⟩
    cases l with
    | nil =>
      cases ad with
      | none =>
        have := run_convert_bytes_nil (P := P) w src el hs he 0 c dst hd
        simp only [execOp, e1, Sem.run_bind, List.length_nil, this, Result.andThen_ok, Sem.run_pure]; rfl
      | some ad =>
        have := run_convert_bytes_back (P := P) w src dst el ad c [] hs he hd (by simp)
        simp only [List.length_nil] at this
        simp only [execOp, e1, Sem.run_bind, List.length_nil, this, Result.andThen_ok, Sem.run_pure]; rfl
    | cons x0 l0 =>
      obtain ⟨b, off, rfl, h2, h3, h4⟩ := e6 (by simp)
      have hxs := cpl_u8 e5
      have := run_convert_bytes_back (P := P) w src dst el ⟨b, off, none⟩ c (x0 :: l0) hs he hd (fun j hj => by
        have := h4.add j (u8v (x0 :: l0)[j]) (by rw [hxs, List.getElem?_map, List.getElem?_eq_getElem hj]; rfl)
        exact this)
      simp only [execOp, e1, Sem.run_bind, this, Result.andThen_ok, Sem.run_pure]; rfl
theorem Q_toBytes {el : Nat} {l : List UInt8} {src dst : TypeId} (hs : P.underlying src = some .string) (hd : P.underlying dst = some (.slice el)) (he : P.underlying el = some (.int .u8)) (hl : l.length ≤ maxLen) (hx : At G x (VStr l)) :
    Quiet P n e G S ⟨d, .convert src dst x, ty, pos, af, g⟩ (Sl l) :=
  Q_of_run fun a w hh => by
    have h1 : a.eval x = .string (bs l) := hx.rep hh
    have hrun := run_bytes_of_string (P := P) w src dst el (bs l) hs hd he
    have hge := grownCap_ge w (bs l).size 0 el
    have hle := grownCap_le_maxLen w (bs l).size 0 el (by rw [bs_size]; exact hl)
    obtain ⟨C, hC⟩ : ∃ C, C = bytesRow (bs l) (grownCap w (bs l).size 0 el) := ⟨_, rfl⟩
    rw [← hC] at hrun
    have hn := heap_alloc_new w.drew (.cells C el (C.size, C.size + 1))
    refine ⟨.slice (some ⟨w.heap.size, 0, none⟩) (bs l).size (grownCap w (bs l).size 0 el), w.drew.alloc (.cells C el (C.size, C.size + 1)), ?_, (Ext.drew [] w).trans (Ext.alloc [] w.drew _),
      ⟨_, _, l.map u8v, by rw [bs_size], by rw [bs_size] at hge; exact hge, hle, (fun h => by cases h), cpl_u8_mk, fun _ => ⟨w.heap.size, 0, rfl, ?_, ?_, ?_⟩⟩⟩
    · simp only [execOp, h1, Sem.run_bind, hrun, Result.andThen_ok, Sem.run_pure]
    · intro ht; have := hh.T_lt _ ht; omega
    · exact (Array.getElem?_eq_some_iff.1 hn).1
    · intro j u hj
      rw [Nat.zero_add]
      rw [cell_of_row (w.drew.alloc (.cells C el (C.size, C.size + 1))) w.heap.size j _ _ _ hn, hC]
      have hjl : j < l.length := by
        have := (List.getElem?_eq_some_iff.1 hj).1; simpa using this
      rw [List.getElem?_map, List.getElem?_eq_getElem hjl] at hj
      simp at hj
      subst hj
      simp [bytesRow, bs, Array.getElem?_append, hjl, u8v]
def VIface (t : TypeId) (X : VP) : VP := ⟨fun w T v => ∃ u, v = .iface t u ∧ X.rep w T u, fun ⟨u, h1, h2⟩ hk => ⟨u, h1, X.mono h2 hk⟩⟩
theorem Q_mkIface {X : VP} (hc : P.concrete t = true) (hx : At G x X) : Quiet P n e G S ⟨d, .makeInterface t x, ty, pos, af, g⟩ (VIface t X) :=
  Q_of_run fun a w hh => by
    refine ⟨.iface t (a.eval x), w, ?_, Ext.refl _ _, ⟨_, rfl, hx.rep hh⟩⟩
    simp [execOp, run_makeInterface (P := P) w t _ hc]
theorem Q_max {k : IntKind} {u v : Int} {ats : Array TypeId} (hx : At G x (VInt k u)) (hy : At G y (VInt k v)) : Quiet P n e G S ⟨d, .call ⟨.builtin .max, #[x, y], ats⟩, ty, pos, af, g⟩ (VInt k (if u < v then v else u)) :=
  Q_of_run fun a w hh => by
    have hx' : a.eval x = .int k u := hx.rep hh
    have hy' : a.eval y = .int k v := hy.rep hh
    refine ⟨_, w, ?_, Ext.refl _ _, rfl⟩
    simp [execOp, resolve, invoke, builtin, hx', hy', run_max_int2]
theorem Q_slNil {el : Nat} {l : List β} (ht : P.underlying t = some (.slice el)) (hx : At G x (Sl l)) (hy : At G y (Is (.slice none 0 0))) :
    Quiet P n e G S ⟨d, .binOp .eql t x y t2, ty, pos, af, g⟩ (VEx (fun b : Bool => b = true → l = []) VBool) :=
  Q_bin hx hy fun w T u v hu hv => by
    obtain ⟨ad, c, xs, e1, e2, e3, e4, e5, e6⟩ := hu
    obtain rfl : v = .slice none 0 0 := hv
    subst e1
    refine ⟨.bool ad.isNone, by simp [eqGuard], ?_, ⟨ad.isNone, fun h => ?_, rfl⟩⟩
    · simp only [binOp, Op.equal, Op.maxDepth, Sem.run_bind, run_equalIn_slice_nil w 9999 t el ad _ c ht, Result.andThen_ok, Sem.run_pure]
    · cases ad with
      | none => have := e4 rfl; exact List.eq_nil_of_length_eq_zero (by omega)
      | some _ => cases h
end
end Go.Sep
namespace Go.Sep
open Go
open Enc (V)
def Facts (G : Ctx) : Ctx → Prop
  | [] => True
  | (t, X) :: G' => find G t = some X ∧ Facts G G'
theorem Facts.sub {G : Ctx} : ∀ {G' : Ctx}, Facts G G' → Sub G' G
  | [], _ => Sub.nil
  | (_, _) :: _, h => Sub.cons h.1 (Facts.sub h.2)
theorem find_append {A B : Ctx} {t : Nat} : find (A ++ B) t = match find A t with | some X => some X | none => find B t := by
  induction A with
  | nil => rfl
  | cons x A ih =>
    obtain ⟨k, X⟩ := x
    rw [List.cons_append, find_cons, find_cons, ih]
    by_cases h : k = t
    · rw [if_pos h, if_pos h]
    · rw [if_neg h, if_neg h]
theorem Sub.append {G A B : Ctx} (ha : Sub A G) (hb : Sub B G) : Sub (A ++ B) G := by
  intro t X hf
  rw [find_append] at hf
  cases hA : find A t with
  | some Y => rw [hA] at hf; exact ha t X (hA.trans hf)
  | none => rw [hA] at hf; exact hb t X hf
theorem fe {G : Ctx} {t : Nat} {X Y : VP} (h : find G t = some Y) (he : Y = X) : find G t = some X := he ▸ h
theorem vint_eq {k : IntKind} {a b : Int} (h : a = b) : VInt k a = VInt k b := by rw [h]
theorem vbool_eq {a b : Bool} (h : a = b) : VBool a = VBool b := by rw [h]
theorem vstr_eq {a b : Bytes} (h : a = b) : VStr a = VStr b := by rw [h]
theorem vsl_eq {α : Type} [Enc α] {a b : List α} (h : a = b) : Sl a = Sl b := by rw [h]
theorem imp_eq {X Y : VP} (h : X = Y) : ∀ (w : World) (T : Nat → Prop) (v : Value), X.rep w T v → Y.rep w T v := fun _ _ _ hh => h ▸ hh
section
variable {P : Program} {n : Nat} {e : Env P} {G G' : Ctx} {S S' : List Res} {Q : Exit → Act → World → Prop}
theorem J_resOnly {A B : List Res} {K : Act → World → Prop} (hs : Split S A B) (h : J n e G A K) : J n e G S K := by
  intro a w hh
  obtain ⟨h1, h2, h3, h4⟩ := hh.part hs
  exact h a w ⟨hh.size, hh.defers, fun t X hX => h3 X _ (hh.slots t X hX), h4, h1, h2, hh.ext, h3 (KPV P) undef hh.glob⟩
def Has (S A : List Res) : Prop := ∃ B, Split S A B
theorem Has.nil : Has S [] := ⟨S, Split.nil⟩
theorem Has.take {A : List Res} {r : Res} (h : Repl S r [] S') (hs : Has S' A) : Has S (r :: A) := let ⟨B, hB⟩ := hs; ⟨B, Split.take h hB⟩
theorem J_lenLe {α : Type} [Enc α] {l : List α} {t : Nat} {K : Act → World → Prop} (hf : find G t = some (Sl l)) (h : l.length ≤ 9223372036854775807 → J n e G S K) : J n e G S K := by
  intro a w hh
  obtain ⟨ad, c, xs, e1, e2, e3, _⟩ := hh.slots t _ hf
  exact h (by simp only [maxLen] at e3; omega) a w hh
def Back {P : Program} (n : Nat) (e : Env P) {ι : Type} (p : ι → Prop) (GG : ι → Ctx) (SS : ι → List Res) : Act → World → Prop :=
  fun a w => ∃ j, p j ∧ Holds n e (GG j) (SS j) a w
theorem J_back {ι : Type} {p : ι → Prop} {inv : ι → Ctx} {Gu : Ctx} {SS : ι → List Res} (j : ι) (hp : p j) (hG : Facts G (inv j)) (hu : Facts G Gu) (hS : Has S (SS j)) :
    J n e G S (Back n e p (fun i => inv i ++ Gu) SS) := by
  obtain ⟨B, hS⟩ := hS
  intro a w hh
  exact ⟨j, hp, J_weak (hG.sub.append hu.sub) (J_resOnly hS (K := fun a w => Holds n e (inv j ++ Gu) (SS j) a w) (fun _ _ h => h)) a w hh⟩
theorem J_loopU {c : Code} {ι : Type} (p : ι → Prop) (inv : ι → Ctx) (Gu : Ctx) (SS : ι → List Res) (μ : ι → Nat) (i0 : ι) (h0 : p i0) (hG : Facts G (inv i0)) (hu : Facts G Gu) (hS : Has S (SS i0))
    (round : ∀ i, p i → J n e (inv i ++ Gu) (SS i) (c.wp P (Exit.then (Back n e (fun j => p j ∧ μ j < μ i) (fun j => inv j ++ Gu) SS) Q))) :
    J n e G S ((Code.loop c).wp P Q) := by
  obtain ⟨B, hS⟩ := hS
  refine J_loop p (fun i => inv i ++ Gu) SS μ i0 h0 (fun K hK => ?_) (fun i hi => ?_)
  · exact J_weak (hG.sub.append hu.sub) (J_resOnly hS hK)
  · refine (round i hi).mono fun a w hw => wp_mono hw fun ex a w hq => ?_
    cases ex with
    | normal => obtain ⟨j, ⟨h1, h2⟩, h3⟩ := hq; exact ⟨j, h1, h2, h3⟩
    | _ => exact hq
theorem J_seqJ {x y : Code} {ι : Type} (p : ι → Prop) (inv : ι → Ctx) (Gu : Ctx) (SS : ι → List Res) (_hu : Facts G Gu)
    (h1 : J n e G S (x.wp P (Exit.then (Back n e p (fun j => inv j ++ Gu) SS) Q))) (h2 : ∀ i, p i → J n e (inv i ++ Gu) (SS i) (y.wp P Q)) : J n e G S ((Code.seq x y).wp P Q) := by
  refine J_seq ?_
  refine h1.mono fun a w hw => wp_mono hw fun ex a w hq => ?_
  cases ex with
  | normal => obtain ⟨j, hj, hh⟩ := hq; exact h2 j hj a w hh
  | _ => exact hq
theorem Repl.row {α : Type} [Enc α] {el : TypeId} {v : Value} {l l' : List α} (h : Repl S (RowR el v l) [] S') (he : l = l') : Repl S (RowR el v l') [] S' := he ▸ h
theorem Repl.box {α : Type} [Enc α] {t : TypeId} {b : Nat} {z z' : α} (h : Repl S (BoxR t b z) [] S') (he : z = z') : Repl S (BoxR t b z') [] S' := he ▸ h
theorem J_open {α : Type} {q : α → Prop} {X : α → VP} {t : Nat} {K : Act → World → Prop} (hf : find G t = some (VEx q X)) (h : ∀ x, q x → J n e ((t, X x) :: G) S K) : J n e G S K := by
  intro a w hh
  obtain ⟨x, hq, hx⟩ := hh.slots t _ hf
  refine h x hq a w ⟨hh.size, hh.defers, fun t' Z hz => ?_, hh.res, hh.nodup, hh.own, hh.ext, hh.glob⟩
  rw [find_cons] at hz
  by_cases ht : t = t'
  · subst ht; rw [if_pos rfl] at hz; obtain rfl := Option.some.inj hz; exact hx
  · rw [if_neg ht] at hz; exact hh.slots t' Z hz
theorem J_turn {t : Nat} {X : VP} (Y : VP) {K : Act → World → Prop} (hf : find G t = some X) (hxy : ∀ w T v, X.rep w T v → Y.rep w T v) (h : J n e ((t, Y) :: G) S K) : J n e G S K :=
  fun a w hh => h a w (hh.also hf hxy)
end
end Go.Sep
namespace Go.Sep
open Go
open Enc (V)
structure One (α : Type) where
  x : α
instance encOne {α : Type} [Enc α] : Enc (One α) where
  size := Enc.size α
  agg := true
  cp x := Enc.cp x.x
  V x := VAgg (Enc.cp x.x)
  len := fun h => Enc.len h
  one := fun h => Enc.one h
  toV := fun h => ⟨_, h, rfl⟩
  ofV := fun ⟨l, h, hv⟩ => ⟨l, h, hv⟩
  nagg := fun h => by cases h
theorem Lens.one {α β : Type} [Enc α] [Enc β] {off : Nat} {get : α → β} {set : α → β → α} (L : Lens α β off get set) : Lens (One α) β off (fun x => get x.x) (fun x y => ⟨set x.x y⟩) where
  fits := L.fits
  get_ok := fun h => L.get_ok h
  set_ok := fun h hm => L.set_ok h hm
class GoZero (α : Type) [Enc α] where
  z : α
  zc : List Value
  ok : ∀ w T, (Enc.cp z).rep w T zc
instance : GoZero Int := ⟨0, [.int .i64 0], fun _ _ => rfl⟩
instance : GoZero UInt8 := ⟨0, [.int .u8 0], fun _ _ => rfl⟩
instance : GoZero UInt32 := ⟨0, [.int .u32 0], fun _ _ => rfl⟩
instance : GoZero UInt64 := ⟨0, [.int .u64 0], fun _ _ => rfl⟩
instance : GoZero Bool := ⟨false, [.bool false], fun _ _ => rfl⟩
instance : GoZero Str := ⟨⟨[]⟩, [.string ⟨#[]⟩], fun _ _ => rfl⟩
instance {α : Type} [Enc α] : GoZero (List α) := ⟨[], [.slice none 0 0], fun w T => ⟨_, rfl, Sl_nil w T⟩⟩
instance {α β : Type} [Enc α] [Enc β] [GoZero α] [GoZero β] : GoZero (α × β) := ⟨(GoZero.z, GoZero.z), GoZero.zc α ++ GoZero.zc β, fun w T => ⟨_, _, rfl, GoZero.ok w T, GoZero.ok w T⟩⟩
instance {α : Type} [Enc α] [GoZero α] : GoZero (One α) := ⟨⟨GoZero.z⟩, GoZero.zc α, fun w T => GoZero.ok (α := α) w T⟩
theorem cpl_replicate {α : Type} [Enc α] [GoZero α] (w : World) (T : Nat → Prop) : ∀ k : Nat, (cpl (List.replicate k (GoZero.z : α))).rep w T (List.replicate k (GoZero.zc α)).flatten
  | 0 => rfl
  | k + 1 => ⟨_, _, rfl, GoZero.ok w T, cpl_replicate w T k⟩
instance {α : Type} {m : Nat} [Enc α] [GoZero α] : GoZero (Arr m α) := ⟨⟨List.replicate m GoZero.z, by simp⟩, (List.replicate m (GoZero.zc α)).flatten, fun w T => cpl_replicate w T m⟩
section
variable {P : Program}
theorem goZ {t : TypeId} (α : Type) [Enc α] [GoZero α] (h : (P.info? t).bind (·.zero) = some (ofCells (Enc.agg α) (GoZero.zc α))) : GoZ P t (GoZero.z : α) :=
  ⟨_, h, fun w T => Enc.toV (GoZero.ok w T)⟩
end
def Oid.zero : Oid := GoZero.z
section
variable {P : Program} {n : Nat} {e : Env P} {G : Ctx} {S S' : List Res} {Q : Exit → Act → World → Prop}
variable {α β : Type} [Enc α] [Enc β] {d : Option Tmp} {dd : Nat} {t t2 : TypeId} {x y c : Operand} {ty : TypeId} {pos : String} {af : Array Edge} {g : Option (Nat × Bool)}
theorem Q_andB {b u : Bool} (hc : At G c (VBool b)) (hx : b = true → At G x (VBool u)) : Quiet P n e G S ⟨d, .pick c x (.const (.bool false)), ty, pos, af, g⟩ (VBool (b && u)) :=
  Q_pick hc (fun h => by subst h; rw [Bool.true_and]; exact hx rfl) (fun h => by subst h; exact At.bool)
theorem Q_orB {b u : Bool} (hc : At G c (VBool b)) (hy : b = false → At G y (VBool u)) : Quiet P n e G S ⟨d, .pick c (.const (.bool true)) y, ty, pos, af, g⟩ (VBool (b || u)) :=
  Q_pick hc (fun h => by subst h; exact At.bool) (fun h => by subst h; rw [Bool.false_or]; exact hy rfl)
theorem Q_idxsN {u : Bytes} {k : IntKind} {i : Nat} (ht : P.underlying t = some .string) (hx : At G x (VStr u)) (hy : At G y (VInt k (i : Nat))) (h1 : i < u.length) :
    Quiet P n e G S ⟨d, .index t x y, ty, pos, af, g⟩ (VInt .u8 ((u[i]'h1).toNat : Nat)) :=
  (Q_idxs (i := (i : Int)) ht hx hy (by omega) (by omega)).imp fun w T v hv => by simpa [List.getD, h1] using hv
theorem wrap_u32 (z : Int) : IntKind.u32.wrap z = z % 4294967296 := by
  simp only [IntKind.wrap, IntKind.signed, IntKind.bits]; simp
theorem u32_add (a b : UInt32) : IntKind.u32.wrap ((a.toNat : Int) + (b.toNat : Int)) = ((a + b).toNat : Nat) := by rw [wrap_u32, UInt32.toNat_add]; omega
theorem u32_bv (a : UInt32) : BitVec.ofInt 32 (a.toNat : Int) = a.toBitVec := by
  apply BitVec.eq_of_toNat_eq
  rw [BitVec.toNat_ofInt]
  have := a.toNat_lt
  have h2 : a.toBitVec.toNat = a.toNat := rfl
  rw [h2]; omega
theorem u32_and (a b : UInt32) : bitAnd .u32 (a.toNat : Int) (b.toNat : Int) = ((a &&& b).toNat : Nat) := by
  have h0 : bitAnd .u32 (a.toNat : Int) (b.toNat : Int) = ((BitVec.ofInt 32 (a.toNat : Int) &&& BitVec.ofInt 32 (b.toNat : Int)).toNat : Int) % 4294967296 := wrap_u32 _
  rw [h0, u32_bv, u32_bv]
  have h := (a &&& b).toNat_lt
  have e : (a.toBitVec &&& b.toBitVec).toNat = (a &&& b).toNat := rfl
  rw [e]; omega
theorem u32_or (a b : UInt32) : bitOr .u32 (a.toNat : Int) (b.toNat : Int) = ((a ||| b).toNat : Nat) := by
  have h0 : bitOr .u32 (a.toNat : Int) (b.toNat : Int) = ((BitVec.ofInt 32 (a.toNat : Int) ||| BitVec.ofInt 32 (b.toNat : Int)).toNat : Int) % 4294967296 := wrap_u32 _
  rw [h0, u32_bv, u32_bv]
  have h := (a ||| b).toNat_lt
  have e : (a.toBitVec ||| b.toBitVec).toNat = (a ||| b).toNat := rfl
  rw [e]; omega
theorem u32_xor (a b : UInt32) : bitXor .u32 (a.toNat : Int) (b.toNat : Int) = ((a ^^^ b).toNat : Nat) := by
  have h0 : bitXor .u32 (a.toNat : Int) (b.toNat : Int) = ((BitVec.ofInt 32 (a.toNat : Int) ^^^ BitVec.ofInt 32 (b.toNat : Int)).toNat : Int) % 4294967296 := wrap_u32 _
  rw [h0, u32_bv, u32_bv]
  have h := (a ^^^ b).toNat_lt
  have e : (a.toBitVec ^^^ b.toBitVec).toNat = (a ^^^ b).toNat := rfl
  rw [e]; omega
theorem u32_not (a : UInt32) : bitNot .u32 (a.toNat : Int) = ((~~~ a).toNat : Nat) := by
  have h1 : bitNot .u32 (a.toNat : Int) = bitXor .u32 (((4294967295 : UInt32).toNat : Nat) : Int) (a.toNat : Int) := rfl
  rw [h1, u32_xor]
  rfl
section
variable {u v : UInt32}
theorem Q_add32 (hx : At G x (VInt .u32 (u.toNat : Nat))) (hy : At G y (VInt .u32 (v.toNat : Nat))) : Quiet P n e G S ⟨d, .binOp .add t x y t2, ty, pos, af, g⟩ (VInt .u32 ((u + v).toNat : Nat)) := by
  have := Q_add (P := P) (n := n) (e := e) (S := S) (d := d) (t := t) (t2 := t2) (ty := ty) (pos := pos) (af := af) (g := g) hx hy
  rwa [u32_add] at this
theorem Q_and32 (hx : At G x (VInt .u32 (u.toNat : Nat))) (hy : At G y (VInt .u32 (v.toNat : Nat))) : Quiet P n e G S ⟨d, .binOp .and t x y t2, ty, pos, af, g⟩ (VInt .u32 ((u &&& v).toNat : Nat)) := by
  have := Q_and (P := P) (n := n) (e := e) (S := S) (d := d) (t := t) (t2 := t2) (ty := ty) (pos := pos) (af := af) (g := g) hx hy
  rwa [u32_and] at this
theorem Q_or32 (hx : At G x (VInt .u32 (u.toNat : Nat))) (hy : At G y (VInt .u32 (v.toNat : Nat))) : Quiet P n e G S ⟨d, .binOp .or t x y t2, ty, pos, af, g⟩ (VInt .u32 ((u ||| v).toNat : Nat)) := by
  have := Q_or (P := P) (n := n) (e := e) (S := S) (d := d) (t := t) (t2 := t2) (ty := ty) (pos := pos) (af := af) (g := g) hx hy
  rwa [u32_or] at this
theorem Q_xor32 (hx : At G x (VInt .u32 (u.toNat : Nat))) (hy : At G y (VInt .u32 (v.toNat : Nat))) : Quiet P n e G S ⟨d, .binOp .xor t x y t2, ty, pos, af, g⟩ (VInt .u32 ((u ^^^ v).toNat : Nat)) := by
  have := Q_xor (P := P) (n := n) (e := e) (S := S) (d := d) (t := t) (t2 := t2) (ty := ty) (pos := pos) (af := af) (g := g) hx hy
  rwa [u32_xor] at this
theorem Q_not32 (hx : At G x (VInt .u32 (u.toNat : Nat))) : Quiet P n e G S ⟨d, .unOp .xor t x, ty, pos, af, g⟩ (VInt .u32 ((~~~ u).toNat : Nat)) := by
  have := Q_xor1 (P := P) (n := n) (e := e) (S := S) (d := d) (t := t) (ty := ty) (pos := pos) (af := af) (g := g) hx
  rwa [u32_not] at this
theorem Q_conv8to32 {u : UInt8} {src dst : TypeId} (hx : At G x (VInt .u8 (u.toNat : Nat))) (hs : (P.underlying src).isSome = true) (hd : P.underlying dst = some (.int .u32)) :
    Quiet P n e G S ⟨d, .convert src dst x, ty, pos, af, g⟩ (VInt .u32 (u.toUInt32.toNat : Nat)) := by
  have := Q_convi (P := P) (n := n) (e := e) (S := S) (d := d) (ty := ty) (pos := pos) (af := af) (g := g) hx hs hd
  rw [wrap_u32] at this
  have h := u.toNat_lt
  have e1 : (u.toNat : Int) % 4294967296 = (u.toUInt32.toNat : Nat) := by simp; omega
  rwa [e1] at this
end
theorem Q_lenR {l : List α} {v : Value} {ats : Array TypeId} {el el' : Nat} (ht : P.underlying t = some (.slice el')) (hats : ats[0]? = some t) (hx : At G x (Is v)) (hm : Repl S (RowR el v l) [] S') :
    Quiet P n e G S ⟨d, .call ⟨.builtin .len, #[x], ats⟩, ty, pos, af, g⟩ (VInt .i64 l.length) :=
  Q_of_run fun a w hh => by
    have h1 : a.eval x = v := hx.rep hh
    obtain ⟨xs, r1, r2⟩ := hh.res _ hm.mem
    have : ∃ a' c, v = .slice a' l.length c := by
      rcases r1.2 with ⟨rfl, hn⟩ | ⟨gg, cap, cur, rfl, _⟩
      · exact ⟨none, 0, by rw [hn]⟩
      · exact ⟨_, _, rfl⟩
    obtain ⟨a', c', rfl⟩ := this
    refine ⟨_, w, ?_, Ext.refl _ _, rfl⟩
    simp [execOp, resolve, invoke, builtin, Builtin.len_, hats, h1, run_underlying ht, goInt]
theorem Q_clip {l : List α} {hi mx : Operand} {j m : Int} {el : TypeId} (ht : P.underlying t = some (.slice el)) (hs : (P.info? el).map (·.size) = some (Enc.size α)) (hx : At G x (Sl l)) (_hlo : True)
    (hhi : (∃ k, At G hi (VInt k j)) ∧ (∃ k, At G mx (VInt k m))) (h0 : 0 ≤ j) (h1 : j ≤ m) (h2 : m ≤ l.length) (_h3 : 0 ≤ m) :
    Quiet P n e G S ⟨d, .slice t x none (some hi) (some mx), ty, pos, af, g⟩ (Sl (l.take j.toNat)) :=
  Q_of_run fun a w hh => by
    obtain ⟨ad, c, xs, e1, e2, e3, e4, e5, e6⟩ := hx.rep hh
    obtain ⟨⟨k, hk⟩, ⟨k', hk'⟩⟩ := hhi
    have hk1 : a.eval hi = .int k j := hk.rep hh
    have hk2 : a.eval mx = .int k' m := hk'.rep hh
    have hlen : (l.take j.toNat).length = j.toNat := by simp; omega
    have hb1 : ∀ (k : IntKind) (cd : BoundsCode), (Instr.sliceBound (.int k m) c cd).run P w = .ok m.toNat w := fun k cd => run_sliceBound w k m _ cd (by omega) (by omega)
    have hb2 : ∀ (k : IntKind) (cd : BoundsCode), (Instr.sliceBound (.int k j) m.toNat cd).run P w = .ok j.toNat w := fun k cd => run_sliceBound w k j _ cd (by omega) (by omega)
    refine ⟨.slice (if m.toNat = 0 then ad else ad.map (·.add (0 * Enc.size α))) (j.toNat - 0) (m.toNat - 0), w, ?_, Ext.refl _ _, ⟨ad, m.toNat, _, ?_, by rw [hlen]; omega, by omega, ?_, (cpl_take e5 j.toNat (by omega)).1, ?_⟩⟩
    · simp [execOp, e1, hk1, hk2, Instr.sliceAt, Instr.slice, Instr.sliceBounds, run_underlying ht, hb1, hb2, run_sizeOf hs]
    · rw [hlen]
      have : ad.map (·.add (0 * Enc.size α)) = ad := by cases ad <;> simp [Addr.add]
      rw [this]; split <;> simp
    · intro hn; have := e4 hn; omega
    · intro hne
      have hp : 0 < j.toNat := by rw [← hlen]; exact List.length_pos_iff.2 hne
      obtain ⟨b, off, k1, k2, k3, k4⟩ := e6 (by intro hn; rw [hn] at h2; simp at h2; omega)
      exact ⟨b, off, k1, k2, k3, by simpa using k4.sub 0 (j.toNat * Enc.size α)⟩
end
end Go.Sep
namespace Go.Sep
open Go
open Enc (V)
end Go.Sep
namespace Go.Sep
open Go
open Enc (V)
def externOf (P : Program) (f : FuncId) : Option (Array Value → Sem Value) :=
  match P.funcs[f]? with
  | some fn => if fn.body.isNone && fn.name != "runtime.NumGoroutine" && (Extern.findNext fn).isNone then Extern.find fn else none
  | none => none
def FnX (P : Program) (f : FuncId) (Xs : List VP) (R : VP) : Prop :=
  ∃ ent, externOf P f = some ent ∧ ∀ (w : World) (T : Nat → Prop) (vs : List Value), Args w T Xs vs → ∃ v, (ent vs.toArray).run P w = .ok v w ∧ R.rep w T v
section
variable {P : Program} {n : Nat} {e : Env P} {G : Ctx} {S S' : List Res} {Q : Exit → Act → World → Prop}
variable {d : Option Tmp} {ty : TypeId} {pos : String} {af : Array Edge} {g : Option (Nat × Bool)} {f : FuncId} {ats : Array TypeId}
theorem Q_callX {xs : List Operand} {Xs : List VP} {R : VP} (hc : FnX P f Xs R) (ha : Ats G xs Xs) : Quiet P n e G S ⟨d, .call ⟨.value (.func f), xs.toArray, ats⟩, ty, pos, af, g⟩ R := by
  refine Q_of_run fun a w hh => ?_
  obtain ⟨ent, h1, h2⟩ := hc
  obtain ⟨v, h3, h4⟩ := h2 w (TT e S) _ (ats_args ha hh)
  refine ⟨v, w, ?_, Ext.refl _ _, h4⟩
  have h5 : execOp a.eval ⟨d, .call ⟨.value (.func f), xs.toArray, ats⟩, ty, pos, af, g⟩ = callFunc f (#[] ++ xs.toArray.map a.eval ++ #[]) := rfl
  rw [h5]
  unfold externOf at h1
  cases hf : P.funcs[f]? with
  | none => rw [hf] at h1; cases h1
  | some fn =>
    rw [hf] at h1
    simp only at h1
    split at h1
    · rename_i hc
      simp only [Bool.and_eq_true, bne_iff_ne, ne_eq, Option.isNone_iff_eq_none] at hc
      obtain ⟨⟨hb, hn⟩, hx⟩ := hc
      have h6 : (#[] ++ xs.toArray.map a.eval ++ #[]) = (xs.map a.eval).toArray := by simp
      rw [h6]
      simp [callFunc, hf, hn, hb, hx, h1, h3]
    · cases h1
theorem run_bytesOf {l : Bytes} {w : World} {T : Nat → Prop} {v : Value} (h : (Sl l).rep w T v) : (Extern.Bytes.bytesOf v).run P w = .ok (bs l) w := by
  obtain ⟨ad, c, xs, rfl, e2, e3, e4, e5, e6⟩ := h
  have key : ∀ (m : Bytes) (g off : Nat) (acc : ByteArray), Reads w g off (m.map u8v) → (Extern.Bytes.loadBytes ⟨g, off, none⟩ m.length acc).run P w = .ok ⟨acc.data ++ m.toArray⟩ w := by
    intro m
    induction m with
    | nil => intro g off acc _; simp [Extern.Bytes.loadBytes]
    | cons x m ih =>
      intro g off acc hr
      have h0 := hr 0 (u8v x) rfl
      rw [Nat.add_zero] at h0
      have h1 : Reads w g (off + 1) (m.map u8v) := by
        intro j u hj
        rw [Nat.add_assoc, Nat.add_comm 1 j]
        exact hr (j + 1) u hj
      simp only [List.length_cons, Extern.Bytes.loadBytes, Sem.run_bind, run_load, h0, Result.andThen_ok, u8v]
      rw [addr_add, ih g (off + 1) _ h1]
      congr 2
      simp [ByteArray.push]
  cases l with
  | nil =>
    cases ad with
    | none => rfl
    | some ad => rfl
  | cons x l =>
    obtain ⟨g, off, rfl, h2, h3, h4⟩ := e6 (by simp)
    have hxs := cpl_u8 e5
    subst hxs
    have := key (x :: l) g off .empty h4
    simpa [Extern.Bytes.bytesOf, bs] using this
theorem idxByteS_x (h : externOf P f = some Extern.BytealgIndexByte.indexByte) (s : Bytes) (c : UInt8) : FnX P f [VStr s, VInt .u8 (c.toNat : Nat)] (VInt .i64 (Lib.indexByte s c)) := by
  refine ⟨_, h, fun w T vs ha => ?_⟩
  match vs, ha with
  | [a, b], ⟨h1, h2, _⟩ =>
    obtain rfl : a = .string (bs s) := h1
    obtain rfl : b = .int .u8 (c.toNat : Nat) := h2
    exact ⟨_, Lib.run_indexByteString _ _ w, by simp [VInt, Is, bs]⟩
theorem idxByteB_x (h : externOf P f = some Extern.BytealgIndexByte.indexByte) (s : Bytes) (c : UInt8) : FnX P f [Sl s, VInt .u8 (c.toNat : Nat)] (VInt .i64 (Lib.indexByte s c)) := by
  refine ⟨_, h, fun w T vs ha => ?_⟩
  match vs, ha with
  | [a, b], ⟨h1, h2, _⟩ =>
    obtain rfl : b = .int .u8 (c.toNat : Nat) := h2
    refine ⟨.int .i64 (Lib.indexByte s c), ?_, rfl⟩
    have h3 := Lib.run_indexByteString (P := P) (bs s) (c.toNat : Nat) w
    have h4 : (Extern.BytealgIndexByte.indexByte #[a, .int .u8 (c.toNat : Nat)]).run P w = (Extern.BytealgIndexByte.indexByte #[.string (bs s), .int .u8 (c.toNat : Nat)]).run P w := by
      obtain ⟨K, hK⟩ : ∃ K : ByteArray → Sem Value, ∀ a, Extern.BytealgIndexByte.indexByte #[a, .int .u8 (c.toNat : Nat)] = (Extern.Bytes.bytesOf a >>= K) :=
        ⟨fun b => (do
          let c ← Extern.Bytes.asByte (.int .u8 (c.toNat : Nat))
          match (List.range b.size).find? fun i => b[i]! == c with
          | some i => pure (goInt i)
          | none => pure (goInt (-1))), fun _ => rfl⟩
      have h5 : (Extern.Bytes.bytesOf (.string (bs s))).run P w = .ok (bs s) w := rfl
      rw [hK, hK, Sem.run_bind, Sem.run_bind, run_bytesOf h1, h5]
    show (Extern.BytealgIndexByte.indexByte #[a, .int .u8 (c.toNat : Nat)]).run P w = _
    rw [h4, h3]
    simp [bs]
theorem compareB_x (h : externOf P f = some Extern.BytealgCompare.compare) (s t : Bytes) : FnX P f [Sl s, Sl t] (VInt .i64 (Lib.compareBytes s t)) := by
  refine ⟨_, h, fun w T vs ha => ?_⟩
  match vs, ha with
  | [a, b], ⟨h1, h2, _⟩ =>
    refine ⟨.int .i64 (Lib.compareBytes s t), ?_, rfl⟩
    have h3 := Lib.run_compareString (P := P) (bs s) (bs t) w
    have h4 : (Extern.BytealgCompare.compare #[a, b]).run P w = (Extern.BytealgCompare.compare #[.string (bs s), .string (bs t)]).run P w := by
      obtain ⟨K, hK⟩ : ∃ K : ByteArray → ByteArray → Sem Value, ∀ a b, Extern.BytealgCompare.compare #[a, b] = (Extern.Bytes.bytesOf a >>= fun x => Extern.Bytes.bytesOf b >>= fun y => K x y) := ⟨fun x y => pure (goInt (Extern.BytealgCompare.cmp x y)), fun _ _ => rfl⟩
      have h5 : (Extern.Bytes.bytesOf (.string (bs s))).run P w = .ok (bs s) w := rfl
      have h6 : (Extern.Bytes.bytesOf (.string (bs t))).run P w = .ok (bs t) w := rfl
      simp only [hK, Sem.run_bind, run_bytesOf h1, run_bytesOf h2, h5, h6, Result.andThen_ok]
    show (Extern.BytealgCompare.compare #[a, b]).run P w = _
    rw [h4, h3]
    simp [bs]
end
end Go.Sep
namespace Go.Sep
open Go
open Enc (V)
theorem wrap_k8 (z : Int) : IntKind.wrap .u8 z = z % 256 := by
  simp only [IntKind.wrap, IntKind.signed, IntKind.bits]; simp
def toU8 (z : Int) : UInt8 := UInt8.ofNat (z % 256).toNat
theorem toU8_toNat (z : Int) : (((toU8 z).toNat : Nat) : Int) = z % 256 := by
  unfold toU8
  rw [UInt8.toNat_ofNat']
  have h1 : 0 ≤ z % 256 := by omega
  have h2 : z % 256 < 256 := by omega
  rw [Nat.mod_eq_of_lt (by omega)]
  omega
def shl8 (x : UInt8) (c : Nat) : UInt8 := toU8 ((x.toNat : Int) * 2 ^ c)
def shr8 (x : UInt8) (c : Nat) : UInt8 := UInt8.ofNat (x.toNat / 2 ^ c)
theorem shr8_toNat (x : UInt8) (c : Nat) : (shr8 x c).toNat = x.toNat / 2 ^ c := by
  unfold shr8
  rw [UInt8.toNat_ofNat']
  have hl := x.toNat_lt
  have h2 : x.toNat / 2 ^ c ≤ x.toNat := Nat.div_le_self _ _
  exact Nat.mod_eq_of_lt (by omega)
theorem k8_bv (a : UInt8) : BitVec.ofInt 8 (a.toNat : Int) = a.toBitVec := by
  apply BitVec.eq_of_toNat_eq
  rw [BitVec.toNat_ofInt]
  have := a.toNat_lt
  have h2 : a.toBitVec.toNat = a.toNat := rfl
  rw [h2]; omega
theorem k8_and (a b : UInt8) : bitAnd .u8 (a.toNat : Int) (b.toNat : Int) = ((a &&& b).toNat : Nat) := by
  have h0 : bitAnd .u8 (a.toNat : Int) (b.toNat : Int) = ((BitVec.ofInt 8 (a.toNat : Int) &&& BitVec.ofInt 8 (b.toNat : Int)).toNat : Int) % 256 := wrap_k8 _
  rw [h0, k8_bv, k8_bv]
  have h := (a &&& b).toNat_lt
  have e : (a.toBitVec &&& b.toBitVec).toNat = (a &&& b).toNat := rfl
  rw [e]; omega
theorem k8_or (a b : UInt8) : bitOr .u8 (a.toNat : Int) (b.toNat : Int) = ((a ||| b).toNat : Nat) := by
  have h0 : bitOr .u8 (a.toNat : Int) (b.toNat : Int) = ((BitVec.ofInt 8 (a.toNat : Int) ||| BitVec.ofInt 8 (b.toNat : Int)).toNat : Int) % 256 := wrap_k8 _
  rw [h0, k8_bv, k8_bv]
  have h := (a ||| b).toNat_lt
  have e : (a.toBitVec ||| b.toBitVec).toNat = (a ||| b).toNat := rfl
  rw [e]; omega
theorem k8_sub (a b : UInt8) : IntKind.wrap .u8 ((a.toNat : Int) - (b.toNat : Int)) = ((a - b).toNat : Nat) := by rw [wrap_k8, UInt8.toNat_sub]; have := a.toNat_lt; have := b.toNat_lt; omega
section
variable {P : Program} {n : Nat} {e : Env P} {G : Ctx} {S : List Res} {d : Option Tmp} {t t2 : TypeId} {x y : Operand} {ty : TypeId} {pos : String} {af : Array Edge} {g : Option (Nat × Bool)} {u v : UInt8}
theorem Q_sub8 (hx : At G x (VInt .u8 (u.toNat : Nat))) (hy : At G y (VInt .u8 (v.toNat : Nat))) : Quiet P n e G S ⟨d, .binOp .sub t x y t2, ty, pos, af, g⟩ (VInt .u8 ((u - v).toNat : Nat)) := by
  have := Q_sub (P := P) (n := n) (e := e) (S := S) (d := d) (t := t) (t2 := t2) (ty := ty) (pos := pos) (af := af) (g := g) hx hy
  rwa [k8_sub] at this
theorem Q_and8 (hx : At G x (VInt .u8 (u.toNat : Nat))) (hy : At G y (VInt .u8 (v.toNat : Nat))) : Quiet P n e G S ⟨d, .binOp .and t x y t2, ty, pos, af, g⟩ (VInt .u8 ((u &&& v).toNat : Nat)) := by
  have := Q_and (P := P) (n := n) (e := e) (S := S) (d := d) (t := t) (t2 := t2) (ty := ty) (pos := pos) (af := af) (g := g) hx hy
  rwa [k8_and] at this
theorem Q_or8 (hx : At G x (VInt .u8 (u.toNat : Nat))) (hy : At G y (VInt .u8 (v.toNat : Nat))) : Quiet P n e G S ⟨d, .binOp .or t x y t2, ty, pos, af, g⟩ (VInt .u8 ((u ||| v).toNat : Nat)) := by
  have := Q_or (P := P) (n := n) (e := e) (S := S) (d := d) (t := t) (t2 := t2) (ty := ty) (pos := pos) (af := af) (g := g) hx hy
  rwa [k8_or] at this
theorem Q_shl8 {c : Nat} {k' : IntKind} (hx : At G x (VInt .u8 (u.toNat : Nat))) (hy : At G y (VInt k' (c : Nat))) (hc : c ≤ 8) : Quiet P n e G S ⟨d, .binOp .shl t x y t2, ty, pos, af, g⟩ (VInt .u8 ((shl8 u c).toNat : Nat)) := by
  have := Q_shl (P := P) (n := n) (e := e) (S := S) (d := d) (t := t) (t2 := t2) (ty := ty) (pos := pos) (af := af) (g := g) hx hy (by omega)
  have e1 : shlK .u8 (u.toNat : Int) (c : Nat) = ((shl8 u c).toNat : Nat) := by
    simp only [shlK, shl8, toU8_toNat, wrap_k8, IntKind.bits, Int.toNat_natCast, Nat.min_eq_left hc]
  rwa [e1] at this
theorem Q_shr8 {c : Nat} {k' : IntKind} (hx : At G x (VInt .u8 (u.toNat : Nat))) (hy : At G y (VInt k' (c : Nat))) (hc : c ≤ 8) : Quiet P n e G S ⟨d, .binOp .shr t x y t2, ty, pos, af, g⟩ (VInt .u8 ((shr8 u c).toNat : Nat)) := by
  have := Q_shr (P := P) (n := n) (e := e) (S := S) (d := d) (t := t) (t2 := t2) (ty := ty) (pos := pos) (af := af) (g := g) hx hy (by omega)
  have e1 : shrK .u8 (u.toNat : Int) (c : Nat) = ((shr8 u c).toNat : Nat) := by
    simp only [shrK, shr8_toNat, IntKind.bits, Int.toNat_natCast, Nat.min_eq_left hc]
    rw [Int.fdiv_eq_ediv_of_nonneg _ (by exact_mod_cast Nat.zero_le (2 ^ c))]
    simp
  rwa [e1] at this
theorem Q_to8 {src dst : TypeId} {k' : IntKind} {z : Int} (hx : At G x (VInt k' z)) (hs : (P.underlying src).isSome = true) (hd : P.underlying dst = some (.int .u8)) :
    Quiet P n e G S ⟨d, .convert src dst x, ty, pos, af, g⟩ (VInt .u8 ((toU8 z).toNat : Nat)) := by
  have := Q_convi (P := P) (n := n) (e := e) (S := S) (d := d) (ty := ty) (pos := pos) (af := af) (g := g) hx hs hd
  rw [wrap_k8, ← toU8_toNat] at this
  exact this
theorem Q_eql8 (hx : At G x (VInt .u8 (u.toNat : Nat))) (hy : At G y (VInt .u8 (v.toNat : Nat))) : Quiet P n e G S ⟨d, .binOp .eql t x y t2, ty, pos, af, g⟩ (VBool (decide (u = v))) := by
  have := Q_eql (P := P) (n := n) (e := e) (S := S) (d := d) (t := t) (t2 := t2) (ty := ty) (pos := pos) (af := af) (g := g) hx hy
  have e1 : decide ((u.toNat : Int) = (v.toNat : Int)) = decide (u = v) := by congr 1; apply propext; rw [← UInt8.toNat_inj]; omega
  rwa [e1] at this
theorem Q_neq8 (hx : At G x (VInt .u8 (u.toNat : Nat))) (hy : At G y (VInt .u8 (v.toNat : Nat))) : Quiet P n e G S ⟨d, .binOp .neq t x y t2, ty, pos, af, g⟩ (VBool (decide (u ≠ v))) := by
  have := Q_neq (P := P) (n := n) (e := e) (S := S) (d := d) (t := t) (t2 := t2) (ty := ty) (pos := pos) (af := af) (g := g) hx hy
  have e1 : decide ((u.toNat : Int) ≠ (v.toNat : Int)) = decide (u ≠ v) := by congr 1; apply propext; rw [ne_eq, ne_eq, ← UInt8.toNat_inj]; omega
  rwa [e1] at this
theorem At.k8 {z : Nat} (hz : z < 256) : At G (.const (.int .u8 (z : Nat))) (VInt .u8 (((UInt8.ofNat z).toNat : Nat) : Int)) := by
  intro a w T _
  show Value.int .u8 (z : Int) = Value.int .u8 _
  rw [UInt8.toNat_ofNat', Nat.mod_eq_of_lt hz]
end
theorem wrap_k32 (z : Int) : IntKind.wrap .u32 z = z % 4294967296 := by
  simp only [IntKind.wrap, IntKind.signed, IntKind.bits]; simp
def toU32 (z : Int) : UInt32 := UInt32.ofNat (z % 4294967296).toNat
theorem toU32_toNat (z : Int) : (((toU32 z).toNat : Nat) : Int) = z % 4294967296 := by
  unfold toU32
  rw [UInt32.toNat_ofNat']
  have h1 : 0 ≤ z % 4294967296 := by omega
  have h2 : z % 4294967296 < 4294967296 := by omega
  rw [Nat.mod_eq_of_lt (by omega)]
  omega
def shl32 (x : UInt32) (c : Nat) : UInt32 := toU32 ((x.toNat : Int) * 2 ^ c)
def shr32 (x : UInt32) (c : Nat) : UInt32 := UInt32.ofNat (x.toNat / 2 ^ c)
theorem shr32_toNat (x : UInt32) (c : Nat) : (shr32 x c).toNat = x.toNat / 2 ^ c := by
  unfold shr32
  rw [UInt32.toNat_ofNat']
  have hl := x.toNat_lt
  have h2 : x.toNat / 2 ^ c ≤ x.toNat := Nat.div_le_self _ _
  exact Nat.mod_eq_of_lt (by omega)
section
variable {P : Program} {n : Nat} {e : Env P} {G : Ctx} {S : List Res} {d : Option Tmp} {t t2 : TypeId} {x y : Operand} {ty : TypeId} {pos : String} {af : Array Edge} {g : Option (Nat × Bool)} {u v : UInt32}
theorem Q_shl32 {c : Nat} {k' : IntKind} (hx : At G x (VInt .u32 (u.toNat : Nat))) (hy : At G y (VInt k' (c : Nat))) (hc : c ≤ 32) : Quiet P n e G S ⟨d, .binOp .shl t x y t2, ty, pos, af, g⟩ (VInt .u32 ((shl32 u c).toNat : Nat)) := by
  have := Q_shl (P := P) (n := n) (e := e) (S := S) (d := d) (t := t) (t2 := t2) (ty := ty) (pos := pos) (af := af) (g := g) hx hy (by omega)
  have e1 : shlK .u32 (u.toNat : Int) (c : Nat) = ((shl32 u c).toNat : Nat) := by
    simp only [shlK, shl32, toU32_toNat, wrap_k32, IntKind.bits, Int.toNat_natCast, Nat.min_eq_left hc]
  rwa [e1] at this
theorem Q_shr32 {c : Nat} {k' : IntKind} (hx : At G x (VInt .u32 (u.toNat : Nat))) (hy : At G y (VInt k' (c : Nat))) (hc : c ≤ 32) : Quiet P n e G S ⟨d, .binOp .shr t x y t2, ty, pos, af, g⟩ (VInt .u32 ((shr32 u c).toNat : Nat)) := by
  have := Q_shr (P := P) (n := n) (e := e) (S := S) (d := d) (t := t) (t2 := t2) (ty := ty) (pos := pos) (af := af) (g := g) hx hy (by omega)
  have e1 : shrK .u32 (u.toNat : Int) (c : Nat) = ((shr32 u c).toNat : Nat) := by
    simp only [shrK, shr32_toNat, IntKind.bits, Int.toNat_natCast, Nat.min_eq_left hc]
    rw [Int.fdiv_eq_ediv_of_nonneg _ (by exact_mod_cast Nat.zero_le (2 ^ c))]
    simp
  rwa [e1] at this
theorem At.k32 {z : Nat} (hz : z < 4294967296) : At G (.const (.int .u32 (z : Nat))) (VInt .u32 (((UInt32.ofNat z).toNat : Nat) : Int)) := by
  intro a w T _
  show Value.int .u32 (z : Int) = Value.int .u32 _
  rw [UInt32.toNat_ofNat', Nat.mod_eq_of_lt hz]
end
theorem wrap_k64 (z : Int) : IntKind.wrap .u64 z = z % 18446744073709551616 := by
  simp only [IntKind.wrap, IntKind.signed, IntKind.bits]; simp
def toU64 (z : Int) : UInt64 := UInt64.ofNat (z % 18446744073709551616).toNat
theorem toU64_toNat (z : Int) : (((toU64 z).toNat : Nat) : Int) = z % 18446744073709551616 := by
  unfold toU64
  rw [UInt64.toNat_ofNat']
  have h1 : 0 ≤ z % 18446744073709551616 := by omega
  have h2 : z % 18446744073709551616 < 18446744073709551616 := by omega
  rw [Nat.mod_eq_of_lt (by omega)]
  omega
def shl64 (x : UInt64) (c : Nat) : UInt64 := toU64 ((x.toNat : Int) * 2 ^ c)
def shr64 (x : UInt64) (c : Nat) : UInt64 := UInt64.ofNat (x.toNat / 2 ^ c)
theorem shr64_toNat (x : UInt64) (c : Nat) : (shr64 x c).toNat = x.toNat / 2 ^ c := by
  unfold shr64
  rw [UInt64.toNat_ofNat']
  have hl := x.toNat_lt
  have h2 : x.toNat / 2 ^ c ≤ x.toNat := Nat.div_le_self _ _
  exact Nat.mod_eq_of_lt (by omega)
theorem k64_bv (a : UInt64) : BitVec.ofInt 64 (a.toNat : Int) = a.toBitVec := by
  apply BitVec.eq_of_toNat_eq
  rw [BitVec.toNat_ofInt]
  have := a.toNat_lt
  have h2 : a.toBitVec.toNat = a.toNat := rfl
  rw [h2]; omega
theorem k64_and (a b : UInt64) : bitAnd .u64 (a.toNat : Int) (b.toNat : Int) = ((a &&& b).toNat : Nat) := by
  have h0 : bitAnd .u64 (a.toNat : Int) (b.toNat : Int) = ((BitVec.ofInt 64 (a.toNat : Int) &&& BitVec.ofInt 64 (b.toNat : Int)).toNat : Int) % 18446744073709551616 := wrap_k64 _
  rw [h0, k64_bv, k64_bv]
  have h := (a &&& b).toNat_lt
  have e : (a.toBitVec &&& b.toBitVec).toNat = (a &&& b).toNat := rfl
  rw [e]; omega
theorem k64_xor (a b : UInt64) : bitXor .u64 (a.toNat : Int) (b.toNat : Int) = ((a ^^^ b).toNat : Nat) := by
  have h0 : bitXor .u64 (a.toNat : Int) (b.toNat : Int) = ((BitVec.ofInt 64 (a.toNat : Int) ^^^ BitVec.ofInt 64 (b.toNat : Int)).toNat : Int) % 18446744073709551616 := wrap_k64 _
  rw [h0, k64_bv, k64_bv]
  have h := (a ^^^ b).toNat_lt
  have e : (a.toBitVec ^^^ b.toBitVec).toNat = (a ^^^ b).toNat := rfl
  rw [e]; omega
theorem k64_sub (a b : UInt64) : IntKind.wrap .u64 ((a.toNat : Int) - (b.toNat : Int)) = ((a - b).toNat : Nat) := by rw [wrap_k64, UInt64.toNat_sub]; have := a.toNat_lt; have := b.toNat_lt; omega
theorem k64_mul (a b : UInt64) : IntKind.wrap .u64 ((a.toNat : Int) * (b.toNat : Int)) = ((a * b).toNat : Nat) := by rw [wrap_k64, UInt64.toNat_mul, ← Int.natCast_mul]; omega
section
variable {P : Program} {n : Nat} {e : Env P} {G : Ctx} {S : List Res} {d : Option Tmp} {t t2 : TypeId} {x y : Operand} {ty : TypeId} {pos : String} {af : Array Edge} {g : Option (Nat × Bool)} {u v : UInt64}
theorem Q_sub64 (hx : At G x (VInt .u64 (u.toNat : Nat))) (hy : At G y (VInt .u64 (v.toNat : Nat))) : Quiet P n e G S ⟨d, .binOp .sub t x y t2, ty, pos, af, g⟩ (VInt .u64 ((u - v).toNat : Nat)) := by
  have := Q_sub (P := P) (n := n) (e := e) (S := S) (d := d) (t := t) (t2 := t2) (ty := ty) (pos := pos) (af := af) (g := g) hx hy
  rwa [k64_sub] at this
theorem Q_mul64 (hx : At G x (VInt .u64 (u.toNat : Nat))) (hy : At G y (VInt .u64 (v.toNat : Nat))) : Quiet P n e G S ⟨d, .binOp .mul t x y t2, ty, pos, af, g⟩ (VInt .u64 ((u * v).toNat : Nat)) := by
  have := Q_mul (P := P) (n := n) (e := e) (S := S) (d := d) (t := t) (t2 := t2) (ty := ty) (pos := pos) (af := af) (g := g) hx hy
  rwa [k64_mul] at this
theorem Q_and64 (hx : At G x (VInt .u64 (u.toNat : Nat))) (hy : At G y (VInt .u64 (v.toNat : Nat))) : Quiet P n e G S ⟨d, .binOp .and t x y t2, ty, pos, af, g⟩ (VInt .u64 ((u &&& v).toNat : Nat)) := by
  have := Q_and (P := P) (n := n) (e := e) (S := S) (d := d) (t := t) (t2 := t2) (ty := ty) (pos := pos) (af := af) (g := g) hx hy
  rwa [k64_and] at this
theorem Q_xor64 (hx : At G x (VInt .u64 (u.toNat : Nat))) (hy : At G y (VInt .u64 (v.toNat : Nat))) : Quiet P n e G S ⟨d, .binOp .xor t x y t2, ty, pos, af, g⟩ (VInt .u64 ((u ^^^ v).toNat : Nat)) := by
  have := Q_xor (P := P) (n := n) (e := e) (S := S) (d := d) (t := t) (t2 := t2) (ty := ty) (pos := pos) (af := af) (g := g) hx hy
  rwa [k64_xor] at this
theorem Q_shl64 {c : Nat} {k' : IntKind} (hx : At G x (VInt .u64 (u.toNat : Nat))) (hy : At G y (VInt k' (c : Nat))) (hc : c ≤ 64) : Quiet P n e G S ⟨d, .binOp .shl t x y t2, ty, pos, af, g⟩ (VInt .u64 ((shl64 u c).toNat : Nat)) := by
  have := Q_shl (P := P) (n := n) (e := e) (S := S) (d := d) (t := t) (t2 := t2) (ty := ty) (pos := pos) (af := af) (g := g) hx hy (by omega)
  have e1 : shlK .u64 (u.toNat : Int) (c : Nat) = ((shl64 u c).toNat : Nat) := by
    simp only [shlK, shl64, toU64_toNat, wrap_k64, IntKind.bits, Int.toNat_natCast, Nat.min_eq_left hc]
  rwa [e1] at this
theorem Q_shr64 {c : Nat} {k' : IntKind} (hx : At G x (VInt .u64 (u.toNat : Nat))) (hy : At G y (VInt k' (c : Nat))) (hc : c ≤ 64) : Quiet P n e G S ⟨d, .binOp .shr t x y t2, ty, pos, af, g⟩ (VInt .u64 ((shr64 u c).toNat : Nat)) := by
  have := Q_shr (P := P) (n := n) (e := e) (S := S) (d := d) (t := t) (t2 := t2) (ty := ty) (pos := pos) (af := af) (g := g) hx hy (by omega)
  have e1 : shrK .u64 (u.toNat : Int) (c : Nat) = ((shr64 u c).toNat : Nat) := by
    simp only [shrK, shr64_toNat, IntKind.bits, Int.toNat_natCast, Nat.min_eq_left hc]
    rw [Int.fdiv_eq_ediv_of_nonneg _ (by exact_mod_cast Nat.zero_le (2 ^ c))]
    simp
  rwa [e1] at this
theorem Q_to64 {src dst : TypeId} {k' : IntKind} {z : Int} (hx : At G x (VInt k' z)) (hs : (P.underlying src).isSome = true) (hd : P.underlying dst = some (.int .u64)) :
    Quiet P n e G S ⟨d, .convert src dst x, ty, pos, af, g⟩ (VInt .u64 ((toU64 z).toNat : Nat)) := by
  have := Q_convi (P := P) (n := n) (e := e) (S := S) (d := d) (ty := ty) (pos := pos) (af := af) (g := g) hx hs hd
  rw [wrap_k64, ← toU64_toNat] at this
  exact this
theorem Q_eql64 (hx : At G x (VInt .u64 (u.toNat : Nat))) (hy : At G y (VInt .u64 (v.toNat : Nat))) : Quiet P n e G S ⟨d, .binOp .eql t x y t2, ty, pos, af, g⟩ (VBool (decide (u = v))) := by
  have := Q_eql (P := P) (n := n) (e := e) (S := S) (d := d) (t := t) (t2 := t2) (ty := ty) (pos := pos) (af := af) (g := g) hx hy
  have e1 : decide ((u.toNat : Int) = (v.toNat : Int)) = decide (u = v) := by congr 1; apply propext; rw [← UInt64.toNat_inj]; omega
  rwa [e1] at this
theorem At.k64 {z : Nat} (hz : z < 18446744073709551616) : At G (.const (.int .u64 (z : Nat))) (VInt .u64 (((UInt64.ofNat z).toNat : Nat) : Int)) := by
  intro a w T _
  show Value.int .u64 (z : Int) = Value.int .u64 _
  rw [UInt64.toNat_ofNat', Nat.mod_eq_of_lt hz]
end
theorem FnP.fn {P : Program} {f : FuncId} {Xs : List VP} {R : VP} (h : FnP P f Xs R) : Fn P f Xs [] (fun _ : Unit => True) (fun _ => R) (fun _ => []) := h
theorem Fn.p {P : Program} {f : FuncId} {Xs : List VP} {R : VP} (h : Fn P f Xs [] (fun _ : Unit => True) (fun _ => R) (fun _ => [])) : FnP P f Xs R := h
end Go.Sep
namespace Go.Sep
open Go
open Enc (V)
def placeOf (P : Program) (t : TypeId) (i : Nat) : Option (Nat × Nat) :=
  match P.underlying t with
  | some (.struct fs) => match fs[i]? with
    | some f => (P.info? f.type).map fun x => (f.offset, x.size)
    | none => none
  | some (.array _ el) => (P.info? el).map fun x => (i * x.size, x.size)
  | _ => none
def buildable (P : Program) (t : TypeId) : Bool :=
  match P.underlying t with
  | some (.struct fs) => fs.toList.all fun f => (P.info? f.type).isSome
  | some (.array _ el) => (P.info? el).isSome
  | _ => false
theorem fold_set (m : List Value) : ∀ (k off : Nat) (l : List Value), off + k + m.length ≤ l.length →
    ((m.zipIdx k).foldl (fun (cs : Array Value) (x : Value × Nat) => cs.setIfInBounds (off + x.2) x.1) l.toArray) = (l.take (off + k) ++ m ++ l.drop (off + k + m.length)).toArray := by
  induction m with
  | nil => intro k off l h; simp
  | cons c m ih =>
    intro k off l h
    rw [List.length_cons] at h
    have e := ih (k + 1) off (l.set (off + k) c) (by rw [List.length_set]; omega)
    simp only [List.zipIdx_cons, List.foldl_cons]
    rw [show l.toArray.setIfInBounds (off + k) c = (l.set (off + k) c).toArray by simp]
    rw [e]
    congr 1
    have h1 : (l.set (off + k) c).take (off + (k + 1)) = l.take (off + k) ++ [c] := by
      rw [show off + (k + 1) = (off + k) + 1 by omega, List.take_set, List.take_succ_eq_append_getElem (by omega)]
      rw [List.set_append_right _ _ (by simp; omega)]
      simp [List.length_take, Nat.min_eq_left (show off + k ≤ l.length by omega)]
    have h2 : (l.set (off + k) c).drop (off + (k + 1) + m.length) = l.drop (off + k + (m.length + 1)) := by
      rw [List.drop_set_of_lt (by omega)]; congr 1; omega
    rw [h1, h2]
    simp
section
variable {P : Program} {n : Nat} {e : Env P} {G : Ctx} {S S' : List Res} {Q : Exit → Act → World → Prop}
variable {d : Option Tmp} {t : TypeId} {ty : TypeId} {pos : String} {af : Array Edge} {g : Option (Nat × Bool)}
inductive BP (P : Program) (G : Ctx) (t : TypeId) {α : Type} [Enc α] : α → List (Nat × Operand) → α → Prop
  | nil {z : α} : BP P G t z [] z
  | cons {β : Type} [Enc β] {z z' : α} {i off : Nat} {x : Operand} {rest : List (Nat × Operand)} {get : α → β} {set : α → β → α} {u : β}
      (hp : placeOf P t i = some (off, Enc.size β)) (L : Lens α β off get set) (hx : At G x (V u)) (hr : BP P G t (set z u) rest z') : BP P G t z ((i, x) :: rest) z'
theorem fill_bp {α : Type} [Enc α] {a : Act} {w : World} (hh : Holds n e G S a w) {places : Nat → Option (Nat × Nat)} (hpl : ∀ i, places i = placeOf P t i) {z z' : α} {parts : List (Nat × Operand)} (hb : BP P G t z parts z') :
    ∀ {l : List Value}, (Enc.cp z).rep w (TT e S) l → ∃ l', Instr.fill places l.toArray (parts.map fun (i, x) => (i, a.eval x)) = some l'.toArray ∧ (Enc.cp z').rep w (TT e S) l' := by
  induction hb with
  | nil => intro l h; exact ⟨l, rfl, h⟩
  | cons hp L hx hr ih =>
    rename_i β _ z z' i off x rest get set u
    intro l h
    obtain ⟨m, hm, hv⟩ := Enc.ofV (hx.rep hh)
    have hc : (a.eval x).cells = m.toArray := by rw [hv]; exact cells_ofCells hm
    have hl := Enc.len hm
    have hl2 := Enc.len h
    have hf := L.fits
    have hset := L.set_ok h hm
    obtain ⟨l', h1, h2⟩ := ih hset
    refine ⟨l', ?_, h2⟩
    rw [← h1]
    have hfold := fold_set m 0 off l (by omega)
    simp only [List.map_cons, Instr.fill, hpl, hp, hc]
    have hsz : ¬ ((decide (m.toArray.size ≠ Enc.size β) || decide (off + m.toArray.size > l.toArray.size)) = true) := by simp; omega
    rw [if_neg hsz]
    have e2 : (Array.foldl (fun cs x => cs.setIfInBounds (off + x.2) x.1) l.toArray m.toArray.zipIdx) = (l.take off ++ m ++ l.drop (off + Enc.size β)).toArray := by
      rw [← hl]
      simpa using hfold
    rw [← e2]
theorem run_mapM_places {ts : List Field} (h : (ts.all fun f => (P.info? f.type).isSome) = true) (w : World) :
    (ts.mapM fun f => do pure (f.offset, ← sizeOf f.type) : Sem (List (Nat × Nat))).run P w = .ok (ts.map fun f => (f.offset, ((P.info? f.type).map (·.size)).getD 0)) w := by
  induction ts with
  | nil => rfl
  | cons f ts ih =>
    simp only [List.all_cons, Bool.and_eq_true] at h
    obtain ⟨i, hi⟩ := Option.isSome_iff_exists.1 h.1
    have h1 : (P.info? f.type).map (·.size) = some i.size := by rw [hi]; rfl
    simp only [List.mapM_cons, Sem.run_bind, run_sizeOf h1, Result.andThen_ok, Sem.run_pure, ih h.2, List.map_cons, h1, Option.getD_some]
theorem Q_build {α : Type} [Enc α] {z z' : α} {parts : Array (Nat × Operand)} (hz : GoZ P t z) (ha : aggOf P t = some (Enc.agg α)) (hk : buildable P t = true) (hb : BP P G t z parts.toList z') :
    Quiet P n e G S ⟨d, .build t parts, ty, pos, af, g⟩ (V z') :=
  Q_of_run fun a w hh => by
    obtain ⟨v, hv, hr⟩ := hz
    obtain ⟨l, hc, hvl⟩ := Enc.ofV (hr w (TT e S))
    have hcl : v.cells = l.toArray := by rw [hvl]; exact cells_ofCells hc
    have hzero := run_zero hv w
    unfold buildable at hk
    unfold aggOf at ha
    cases hu : P.underlying t with
    | none => rw [hu] at hk; cases hk
    | some k =>
      rw [hu] at hk ha
      cases k <;> simp only [Bool.false_eq_true] at hk
      case struct fs =>
        have hag : Enc.agg α = true := by simpa using ha.symm
        obtain ⟨l', h1, h2⟩ := fill_bp (places := fun i => ((fs.toList.map fun f => (f.offset, ((P.info? f.type).map (·.size)).getD 0)).toArray)[i]?) hh (by
          intro i
          unfold placeOf
          rw [hu]
          cases hf : fs[i]? with
          | none => simp [hf]
          | some f =>
            have hm : f ∈ fs.toList := by have := Array.getElem?_eq_some_iff.1 hf; obtain ⟨h1, h2⟩ := this; rw [← h2]; simp
            have := List.all_eq_true.1 hk f hm
            obtain ⟨i, hi⟩ := Option.isSome_iff_exists.1 this
            simp [hf, hi]) hb hc
        refine ⟨.agg l'.toArray, w, ?_, Ext.refl _ _, by have := Enc.toV h2; rwa [hag] at this⟩
        have hpl : (fs.mapM fun f => do pure (f.offset, ← sizeOf f.type) : Sem (Array (Nat × Nat))).run P w = .ok (fs.toList.map fun f => (f.offset, ((P.info? f.type).map (·.size)).getD 0)).toArray w := by
          have := run_mapM_places hk w
          rw [Array.mapM_eq_mapM_toList]
          show Sem.run P (Bind.bind _ _) w = _
          rw [Sem.run_bind, this]
          rfl
        simp only [execOp, Instr.build, Sem.run_bind, hzero, run_underlying hu, Result.andThen_ok, hcl, hpl, Array.toList_map]
        rw [h1]
        rfl
      case array m el =>
        have hag : Enc.agg α = true := by simpa using ha.symm
        obtain ⟨x, hx⟩ := Option.isSome_iff_exists.1 hk
        have hs : (P.info? el).map (·.size) = some x.size := by rw [hx]; rfl
        obtain ⟨l', h1, h2⟩ := fill_bp (places := fun i => some (i * x.size, x.size)) hh (by
          intro i
          unfold placeOf
          rw [hu]
          simp [hx]) hb hc
        refine ⟨.agg l'.toArray, w, ?_, Ext.refl _ _, by have := Enc.toV h2; rwa [hag] at this⟩
        simp only [execOp, Instr.build, Sem.run_bind, hzero, run_underlying hu, Result.andThen_ok, hcl, run_sizeOf hs, Array.toList_map]
        rw [h1]
        rfl
end
end Go.Sep
namespace Go.Sep
open Go
open Enc (V)
open Go.ChangeMaps (setBlock)
set_option linter.unusedSectionVars false
section
variable {κ β : Type} [DecidableEq κ]
def mget : List (κ × β) → κ → Option β
  | [], _ => none
  | p :: m, k => if k = p.1 then some p.2 else mget m k
def mset : List (κ × β) → κ → β → List (κ × β)
  | [], k, v => [(k, v)]
  | p :: m, k, v => if k = p.1 then (k, v) :: m else p :: mset m k v
def mdel : List (κ × β) → κ → List (κ × β)
  | [], _ => []
  | p :: m, k => if k = p.1 then m else p :: mdel m k
end
section
variable {P : Program} {κ β : Type} [Enc κ] [DecidableEq κ] [Enc β]
structure KeyT (P : Program) (kt : TypeId) (κ : Type) [Enc κ] [DecidableEq κ] : Prop where
  check : ∀ {w : World} {T : Nat → Prop} {v : Value} {x : κ} (em : Bool), (V x).rep w T v → (Instr.checkKey em 10000 kt v).run P w = .ok () w
  equal : ∀ {w : World} {T : Nat → Prop} {v u : Value} {x y : κ}, (V x).rep w T v → (V y).rep w T u → (Op.equal kt v u).run P w = .ok (decide (x = y)) w
  same : ∀ {w : World} {T : Nat → Prop} {v u : Value} {x : κ}, (V x).rep w T v → (V x).rep w T u → v = u ∧ Instr.sameBits 10000 v u = true
  now : ∀ {w : World} {T : Nat → Prop} {v : Value} {x : κ} {es : List MapEntry}, (V x).rep w T v → (∀ en ∈ es, ∃ y : κ, (V y).rep w T en.key) → (Instr.findKey kt v es).run P w = (Instr.findAsking kt v es).run P w
def Ents (w : World) (T : Nat → Prop) : List MapEntry → List (κ × β) → Prop
  | [], [] => True
  | en :: es, p :: m => (V p.1).rep w T en.key ∧ (V p.2).rep w T en.val ∧ Ents w T es m
  | _, _ => False
theorem Ents.mono {w : World} {T : Nat → Prop} {w' : World} {T' : Nat → Prop} (hk : Keeps w T w' T') : ∀ {es : List MapEntry} {m : List (κ × β)}, Ents w T es m → Ents w' T' es m
  | [], [], _ => trivial
  | _ :: _, p :: _, h => ⟨(V p.1).mono h.1 hk, (V p.2).mono h.2.1 hk, Ents.mono hk h.2.2⟩
  | [], _ :: _, h => h.elim
  | _ :: _, [], h => h.elim
theorem Ents.len {w : World} {T : Nat → Prop} : ∀ {es : List MapEntry} {m : List (κ × β)}, Ents w T es m → es.length = m.length
  | [], [], _ => rfl
  | _ :: _, _ :: _, h => by simp [Ents.len h.2.2]
  | [], _ :: _, h => h.elim
  | _ :: _, [], h => h.elim
theorem Ents.keys {w : World} {T : Nat → Prop} : ∀ {es : List MapEntry} {m : List (κ × β)}, Ents w T es m → ∀ en ∈ es, ∃ y : κ, (V y).rep w T en.key
  | [], [], _, en, h => by simp at h
  | e1 :: es, p :: m, h, en, hm => by
    rcases List.mem_cons.1 hm with rfl | hm
    · exact ⟨p.1, h.1⟩
    · exact Ents.keys h.2.2 en hm
  | [], _ :: _, h, _, _ => h.elim
  | _ :: _, [], h, _, _ => h.elim
theorem Ents.append {w : World} {T : Nat → Prop} : ∀ {es : List MapEntry} {m : List (κ × β)} {en : MapEntry} {p : κ × β}, Ents w T es m → (V p.1).rep w T en.key → (V p.2).rep w T en.val → Ents w T (es ++ [en]) (m ++ [p])
  | [], [], _, _, _, h1, h2 => ⟨h1, h2, trivial⟩
  | _ :: _, _ :: _, _, _, h, h1, h2 => ⟨h.1, h.2.1, Ents.append h.2.2 h1 h2⟩
  | [], _ :: _, _, _, h, _, _ => h.elim
  | _ :: _, [], _, _, h, _, _ => h.elim
theorem run_find {kt : TypeId} (hK : KeyT P kt κ) {w : World} {T : Nat → Prop} {v : Value} {x : κ} (hx : (V x).rep w T v) : ∀ {es : List MapEntry} {m : List (κ × β)} (i : Nat), Ents w T es m →
    ((mget m x = none ∧ mset m x = (fun (u : β) => m ++ [(x, u)]) ∧ (Instr.findAsking kt v es i).run P w = .ok none w ∧ mdel m x = m) ∨
     ∃ (j : Nat) (u : Value) (z : β) (en : MapEntry), mget m x = some z ∧ (V z).rep w T u ∧ es[j]? = some en ∧ (V x).rep w T en.key ∧ (Instr.findAsking kt v es i).run P w = .ok (some (i + j, u)) w ∧
       (∀ z' : β, mset m x z' = m.set j (x, z')) ∧ mdel m x = m.eraseIdx j)
  | [], [], _, _ => .inl ⟨rfl, rfl, rfl, rfl⟩
  | en :: es, p :: m, i, h => by
    have he := hK.equal hx h.1
    by_cases hc : x = p.1
    · refine .inr ⟨0, en.val, p.2, en, by simp [mget, hc], h.2.1, rfl, by rw [hc]; exact h.1, ?_, by intro z'; simp [mset, hc], by simp [mdel, hc]⟩
      rw [Instr.findAsking]
      simp only [Sem.run_bind, he, Result.andThen_ok, decide_eq_true hc, if_true, Sem.run_pure, Nat.add_zero]
    · have hrun : (Instr.findAsking kt v (en :: es) i).run P w = (Instr.findAsking kt v es (i + 1)).run P w := by
        rw [Instr.findAsking]
        simp only [Sem.run_bind, he, Result.andThen_ok, decide_eq_false hc, Bool.false_eq_true, if_false]
      rcases run_find hK hx (i + 1) h.2.2 with ⟨h1, h2, h3, h4⟩ | ⟨j, u, z, e', h1, h2, h3, h4, h5, h6, h7⟩
      · exact .inl ⟨by simp [mget, hc, h1], by funext u; simp [mset, hc, h2], by rw [hrun, h3], by simp [mdel, hc, h4]⟩
      · exact .inr ⟨j + 1, u, z, e', by simp [mget, hc, h1], h2, by simpa using h3, h4, by rw [hrun, h5]; congr 3; omega, by intro z'; simp [mset, hc, h6], by simp [mdel, hc, h7]⟩
  | [], _ :: _, _, h => h.elim
  | _ :: _, [], _, h => h.elim
theorem Ents.set {w : World} {T : Nat → Prop} : ∀ {es : List MapEntry} {m : List (κ × β)} (j : Nat) {en : MapEntry} {p : κ × β}, Ents w T es m → (V p.1).rep w T en.key → (V p.2).rep w T en.val → Ents w T (es.set j en) (m.set j p)
  | [], [], _, _, _, _, _, _ => trivial
  | _ :: _, _ :: _, 0, _, _, h, h1, h2 => ⟨h1, h2, h.2.2⟩
  | _ :: _, _ :: _, j + 1, _, _, h, h1, h2 => ⟨h.1, h.2.1, Ents.set j h.2.2 h1 h2⟩
  | [], _ :: _, _, _, _, h, _, _ => h.elim
  | _ :: _, [], _, _, _, h, _, _ => h.elim
theorem Ents.erase {w : World} {T : Nat → Prop} : ∀ {es : List MapEntry} {m : List (κ × β)} (j : Nat), Ents w T es m → Ents w T (es.eraseIdx j) (m.eraseIdx j)
  | [], [], _, _ => trivial
  | _ :: _, _ :: _, 0, h => h.2.2
  | _ :: _, _ :: _, j + 1, h => ⟨h.1, h.2.1, Ents.erase j h.2.2⟩
  | [], _ :: _, _, h => h.elim
  | _ :: _, [], _, h => h.elim
def MapR (b : Nat) (m : List (κ × β)) : Res where
  foot := [b]
  holds w T := ∃ (es : Array MapEntry) (clock : Nat), w.heap[b]? = some (.map es clock) ∧ Ents w T es.toList m ∧ (∀ en ∈ es.toList, en.born < clock) ∧ (es.toList.map (·.born)).Nodup
  lt := fun ⟨_, _, h, _⟩ b hb => by simp at hb; subst hb; exact (Array.getElem?_eq_some_iff.1 h).1
  mono := fun ⟨es, c, h, hc, h1, h2⟩ k1 k2 => ⟨es, c, (k1 _ (Array.getElem?_eq_some_iff.1 h).1 (.inl (by simp))).trans h, hc.mono (fun c hc ht => ⟨k2 c hc ht, k1 c hc (.inr ht)⟩), h1, h2⟩
abbrev MapP (b : Nat) : VP := Is (.map (some b))
def MapTo (m : List (κ × β)) : VP :=
  ⟨fun w T v => ∃ (b : Nat) (es : Array MapEntry) (clock : Nat), v = .map (some b) ∧ ¬ T b ∧ b < w.heap.size ∧ w.heap[b]? = some (.map es clock) ∧ Ents w T es.toList m,
   fun ⟨b, es, c, h1, h2, h3, h4, h5⟩ hk => by
     obtain ⟨k1, k2, k3⟩ := hk.get h3 h2
     exact ⟨b, es, c, h1, k1, k2, k3.trans h4, h5.mono hk⟩⟩
variable {n : Nat} {e : Env P} {G : Ctx} {S S' : List Res} {Q : Exit → Act → World → Prop}
variable {d : Option Tmp} {dd : Nat} {t : TypeId} {x y z : Operand} {ty : TypeId} {pos : String} {af : Array Edge} {g : Option (Nat × Bool)} {ops : Array Oper} {rest : List Oper}
theorem Keeps.refl (w : World) (T : Nat → Prop) : Keeps w T w T := fun _ _ h => ⟨h, rfl⟩
theorem run_getO {w : World} {b : Nat} {es : Array MapEntry} {c : Nat} (h : w.heap[b]? = some (.map es c)) : (getObj b).run P w = .ok (.map es c) w := by simp [getObj, Sem.run, h]
theorem run_setO {w : World} {b : Nat} {es : Array MapEntry} {c : Nat} {o' : Obj} (h : w.heap[b]? = some (.map es c)) : (setObj b o').run P w = .ok () (setBlock w b o') := by simp [setObj, Sem.run, h, setBlock]
theorem vtup2 {X Y : VP} {w : World} {T : Nat → Prop} {u v : Value} (h1 : X.rep w T u) (h2 : Y.rep w T v) : (VTup [X, Y]).rep w T (.tuple #[u, v]) :=
  ⟨[u, v], rfl, rfl, fun i Z z hZ hz => by
    match i with
    | 0 => simp at hZ hz; subst hZ; subst hz; exact h1
    | 1 => simp at hZ hz; subst hZ; subst hz; exact h2
    | i + 2 => simp at hZ⟩
theorem setBlock_same {w : World} {b : Nat} {o o' : Obj} (h : w.heap[b]? = some o) : (setBlock w b o').heap[b]? = some o' := by
  have := (Array.getElem?_eq_some_iff.1 h).1
  simp [setBlock, this]
theorem setBlock_ext (w : World) (b : Nat) (o : Obj) : Ext [b] w (setBlock w b o) :=
  ⟨rfl, rfl, rfl, by simp [setBlock], fun i _ hi => by simp at hi; simp [setBlock, Array.getElem?_setIfInBounds, Ne.symm hi]⟩
theorem run_lookup {kt et : TypeId} (ht : P.underlying t = some (.map kt et)) (hK : KeyT P kt κ) {w : World} {T : Nat → Prop} {b : Nat} {es : Array MapEntry} {clock : Nat} (hb : w.heap[b]? = some (.map es clock)) {m : List (κ × β)} (hE : Ents w T es.toList m)
    {v : Value} {k : κ} (hk : (V k).rep w T v) {zv : β} (hz : GoZ P et zv) (ok : Bool) :
    ∃ u, (V ((mget m k).getD zv)).rep w T u ∧ (Instr.lookup t (.map (some b)) v ok).run P w = .ok (if ok then .tuple #[u, .bool (mget m k).isSome] else u) w := by
  have h1 := hK.check es.isEmpty hk
  have h2 := hK.now hk hE.keys
  rcases run_find hK hk 0 hE with ⟨h3, _, h4, _⟩ | ⟨j, u, zz, en, h3, h5, _, _, h4, _⟩
  · obtain ⟨u, hu, hr⟩ := hz
    refine ⟨u, by rw [h3]; exact hr w T, ?_⟩
    have hzr := run_zero hu w
    simp only [Instr.lookup, Sem.run_bind, run_underlying ht, Result.andThen_ok, run_getO hb, Sem.run_pure, h1, h2, h4, hzr, h3]
    cases ok <;> rfl
  · refine ⟨u, by rw [h3]; exact h5, ?_⟩
    simp only [Instr.lookup, Sem.run_bind, run_underlying ht, Result.andThen_ok, run_getO hb, Sem.run_pure, h1, h2, h4, h3]
    cases ok <;> rfl
theorem Q_lookup {kt et : TypeId} {m : List (κ × β)} {k : κ} {zv : β} (ht : P.underlying t = some (.map kt et)) (hK : KeyT P kt κ) (hz : GoZ P et zv) (hx : At G x (MapTo m)) (hy : At G y (V k)) :
    Quiet P n e G S ⟨d, .lookup t x y false, ty, pos, af, g⟩ (V ((mget m k).getD zv)) :=
  Q_of_run fun a w hh => by
    obtain ⟨b, es, c, e1, e2, e3, e4, e5⟩ := hx.rep hh
    obtain ⟨u, h1, h2⟩ := run_lookup ht hK e4 e5 (hy.rep hh) hz false
    exact ⟨u, w, by simp only [execOp, e1, Sem.run_bind, h2, Result.andThen_ok, Sem.run_pure]; rfl, Ext.refl _ _, h1⟩
theorem Q_lookupOk {kt et : TypeId} {m : List (κ × β)} {k : κ} {zv : β} (ht : P.underlying t = some (.map kt et)) (hK : KeyT P kt κ) (hz : GoZ P et zv) (hx : At G x (MapTo m)) (hy : At G y (V k)) :
    Quiet P n e G S ⟨d, .lookup t x y true, ty, pos, af, g⟩ (VTup [V ((mget m k).getD zv), VBool (mget m k).isSome]) :=
  Q_of_run fun a w hh => by
    obtain ⟨b, es, c, e1, e2, e3, e4, e5⟩ := hx.rep hh
    obtain ⟨u, h1, h2⟩ := run_lookup ht hK e4 e5 (hy.rep hh) hz true
    exact ⟨.tuple #[u, .bool (mget m k).isSome], w, by simp only [execOp, e1, Sem.run_bind, h2, Result.andThen_ok, Sem.run_pure]; rfl, Ext.refl _ _, vtup2 h1 rfl⟩
theorem Q_lookupR {kt et : TypeId} {b : Nat} {m : List (κ × β)} {k : κ} {zv : β} (ht : P.underlying t = some (.map kt et)) (hK : KeyT P kt κ) (hz : GoZ P et zv) (hx : At G x (MapP b)) (hy : At G y (V k)) (hm : Repl S (MapR b m) [] S') :
    Quiet P n e G S ⟨d, .lookup t x y false, ty, pos, af, g⟩ (V ((mget m k).getD zv)) :=
  Q_of_run fun a w hh => by
    have e1 : a.eval x = .map (some b) := hx.rep hh
    obtain ⟨es, c, e4, e5, _⟩ := hh.res _ hm.mem
    obtain ⟨u, h1, h2⟩ := run_lookup ht hK e4 e5 (hy.rep hh) hz false
    exact ⟨u, w, by simp only [execOp, e1, Sem.run_bind, h2, Result.andThen_ok, Sem.run_pure]; rfl, Ext.refl _ _, h1⟩
theorem Q_lookupOkR {kt et : TypeId} {b : Nat} {m : List (κ × β)} {k : κ} {zv : β} (ht : P.underlying t = some (.map kt et)) (hK : KeyT P kt κ) (hz : GoZ P et zv) (hx : At G x (MapP b)) (hy : At G y (V k)) (hm : Repl S (MapR b m) [] S') :
    Quiet P n e G S ⟨d, .lookup t x y true, ty, pos, af, g⟩ (VTup [V ((mget m k).getD zv), VBool (mget m k).isSome]) :=
  Q_of_run fun a w hh => by
    have e1 : a.eval x = .map (some b) := hx.rep hh
    obtain ⟨es, c, e4, e5, _⟩ := hh.res _ hm.mem
    obtain ⟨u, h1, h2⟩ := run_lookup ht hK e4 e5 (hy.rep hh) hz true
    exact ⟨.tuple #[u, .bool (mget m k).isSome], w, by simp only [execOp, e1, Sem.run_bind, h2, Result.andThen_ok, Sem.run_pure]; rfl, Ext.refl _ _, vtup2 h1 rfl⟩
theorem Q_lenM {m : List (κ × β)} {ats : Array TypeId} {kt et : TypeId} (ht : P.underlying t = some (.map kt et)) (hats : ats[0]? = some t) (hx : At G x (MapTo m)) :
    Quiet P n e G S ⟨d, .call ⟨.builtin .len, #[x], ats⟩, ty, pos, af, g⟩ (VInt .i64 m.length) :=
  Q_of_run fun a w hh => by
    obtain ⟨b, es, c, e1, e2, e3, e4, e5⟩ := hx.rep hh
    have hl := e5.len
    refine ⟨_, w, ?_, Ext.refl _ _, rfl⟩
    simp only [Array.length_toList] at hl
    simp [execOp, resolve, invoke, builtin, Builtin.len_, hats, e1, run_underlying ht, run_getO e4, goInt, hl]
theorem Q_lenMR {b : Nat} {m : List (κ × β)} {ats : Array TypeId} {kt et : TypeId} (ht : P.underlying t = some (.map kt et)) (hats : ats[0]? = some t) (hx : At G x (MapP b)) (hm : Repl S (MapR b m) [] S') :
    Quiet P n e G S ⟨d, .call ⟨.builtin .len, #[x], ats⟩, ty, pos, af, g⟩ (VInt .i64 m.length) :=
  Q_of_run fun a w hh => by
    have e1 : a.eval x = .map (some b) := hx.rep hh
    obtain ⟨es, c, e4, e5, _⟩ := hh.res _ hm.mem
    have hl := e5.len
    refine ⟨_, w, ?_, Ext.refl _ _, rfl⟩
    simp only [Array.length_toList] at hl
    simp [execOp, resolve, invoke, builtin, Builtin.len_, hats, e1, run_underlying ht, run_getO e4, goInt, hl]
theorem J_makeMap (κ β : Type) [Enc κ] [DecidableEq κ] [Enc β] (hlt : Nat.blt dd n = true) (h : ∀ b, J n e ((dd, MapP b) :: G) (MapR b ([] : List (κ × β)) :: S) (wpList P ops Q rest)) :
    J n e G S (wpList P ops Q (⟨some dd, .makeMap t none, ty, pos, af, none⟩ :: rest)) := by
  intro a w hh
  have hlt' : dd < n := by simpa [Nat.blt_eq] using hlt
  refine wpList_plain rfl fun K hK => ?_
  unfold Oper.wp
  have hex : (execOp a.eval ⟨some dd, .makeMap t none, ty, pos, af, none⟩).run P w = .ok (.value (.map (some w.heap.size))) (w.alloc (.map #[] 0)) := rfl
  rw [hex]
  have hn := heap_alloc_new w (.map #[] 0)
  refine hK _ _ (h w.heap.size _ _ (Holds.put (hh.new (r := MapR w.heap.size ([] : List (κ × β))) (Ext.alloc _ _ _) (by intro b hb; simp [MapR] at hb; omega) (by simp [MapR]) ⟨#[], 0, hn, trivial, by simp, by simp⟩) rfl hlt'))
theorem Repl.feet_tt {r r' : Res} (h : Repl S r [r'] S') (hf : r.foot = r'.foot) : TT e S' = TT e S := by
  obtain ⟨A, B, e1, e2⟩ := h
  rw [e1, e2]; funext c; simp [TT, hf]
theorem J_mapUpdate {kt et : TypeId} {b : Nat} {m m' : List (κ × β)} {k : κ} {v : β} (ht : P.underlying t = some (.map kt et)) (hK : KeyT P kt κ) (hx : At G x (MapP b)) (hy : At G y (V k)) (hz : At G z (V v)) (hm' : mset m k v = m')
    (hm : Repl S (MapR b m) [MapR b m'] S') (h : J n e G S' (wpList P ops Q rest)) :
    J n e G S (wpList P ops Q (⟨none, .mapUpdate t x y z, ty, pos, af, none⟩ :: rest)) := by
  subst hm'
  intro a w hh
  refine wpList_plain rfl fun K hK' => ?_
  have e1 : a.eval x = .map (some b) := hx.rep hh
  have ek := hy.rep hh
  have ev := hz.rep hh
  obtain ⟨es, c, e4, e5, e6, e7⟩ := hh.res _ hm.mem
  have h1 := hK.check false ek
  have h2 := hK.now ek e5.keys
  have hTT : TT e S' = TT e S := hm.feet_tt rfl
  have hkeep : ∀ o, Keeps w (TT e S) (setBlock w b o) (TT e S') := fun o => by
    rw [hTT]
    exact (setBlock_ext w b o).keeps (by intro c hc; simp at hc; subst hc; exact .inr (List.mem_flatMap.2 ⟨_, hm.mem, by simp [MapR]⟩)) (fun _ _ h => h)
  have key : ∃ (es' : Array MapEntry) (c' : Nat), (Instr.mapUpdate t (.map (some b)) (a.eval y) (a.eval z)).run P w = .ok () (setBlock w b (.map es' c')) ∧ Ents w (TT e S) es'.toList (mset m k v) ∧ (∀ en ∈ es'.toList, en.born < c') ∧ (es'.toList.map (·.born)).Nodup := by
    rcases run_find hK ek 0 e5 with ⟨h3, h4, h5, _⟩ | ⟨j, u, zz, en, h3, _, h6, h7, h5, h8, _⟩
    · refine ⟨es.push { key := a.eval y, val := a.eval z, born := c }, c + 1, ?_, ?_, ?_, ?_⟩
      · simp only [Instr.mapUpdate, Sem.run_bind, run_underlying ht, Result.andThen_ok, run_getO e4, h1, h2, h5, run_setO e4]
      · rw [Array.toList_push, h4]; exact e5.append ek ev
      · intro en hen
        rw [Array.toList_push] at hen
        rcases List.mem_append.1 hen with hen | hen
        · have := e6 en hen; omega
        · simp at hen; subst hen; simp
      · rw [Array.toList_push, List.map_append]
        refine List.nodup_append.2 ⟨e7, by simp, ?_⟩
        intro x hx1 y' hy1 hxy
        simp at hy1
        obtain ⟨en, hen, rfl⟩ := List.mem_map.1 hx1
        have := e6 en hen
        omega
    · rw [Nat.zero_add] at h5
      have hj : es[j]? = some en := by rw [← Array.getElem?_toList]; exact h6
      obtain ⟨hjl, hje⟩ := Array.getElem?_eq_some_iff.1 hj
      obtain ⟨hs1, hs2⟩ := hK.same h7 ek
      have hmod : (es.modify j fun en' => { en' with key := a.eval y, val := a.eval z }).toList = es.toList.set j { en with key := a.eval y, val := a.eval z } := by
        rw [Array.toList_modify]
        have hjl' : j < es.toList.length := by simpa using hjl
        apply List.ext_getElem?
        intro i
        rw [List.getElem?_modify, List.getElem?_set]
        by_cases hij : j = i
        · subst hij; simp [hjl, hje]
        · simp [hij]
      refine ⟨es.modify j fun en' => { en' with key := a.eval y, val := a.eval z }, c, ?_, ?_, ?_, ?_⟩
      · have hst : (Instr.keyThatStays en.key (a.eval y)).run P w = .ok (a.eval y) w := by
          unfold Instr.keyThatStays
          rw [if_pos hs2]; rfl
        have hgd : (((es[j]?).map (·.key)).getD (a.eval y)) = en.key := by rw [hj]; rfl
        simp only [Instr.mapUpdate, Sem.run_bind, run_underlying ht, Result.andThen_ok, run_getO e4, h1, h2, h5, hgd, hst, run_setO e4]
      · rw [hmod, h8]; exact e5.set j ek ev
      · intro e' he'
        rw [hmod] at he'
        rcases List.mem_or_eq_of_mem_set he' with he' | he'
        · exact e6 _ he'
        · subst he'
          exact e6 en (List.mem_of_getElem? h6)
      · rw [hmod, List.map_set]
        have : (es.toList.map (·.born)).set j en.born = es.toList.map (·.born) := by
          have hl : j < (es.toList.map (·.born)).length := by simpa using hjl
          have : en.born = (es.toList.map (·.born))[j] := by simp [← hje]
          rw [this, List.set_getElem_self]
        rw [this]; exact e7
  obtain ⟨es', c', r1, r2, r3, r4⟩ := key
  unfold Oper.wp
  have hex : (execOp a.eval ⟨none, .mapUpdate t x y z, ty, pos, af, none⟩).run P w = .ok .skip (setBlock w b (.map es' c')) := by
    simp only [execOp, e1, Sem.run_bind, r1, Result.andThen_ok, Sem.run_pure]
  rw [hex]
  refine hK' _ _ (h _ _ ?_)
  refine hh.repl hm (setBlock_ext w b _) (by simp [MapR]) (by simp [MapR]) ?_
  intro q hq
  simp at hq; subst hq
  exact ⟨es', c', setBlock_same e4, r2.mono (hkeep _), r3, r4⟩
theorem J_delete {kt et : TypeId} {b : Nat} {m m' : List (κ × β)} {k : κ} {ats : Array TypeId} (ht : P.underlying t = some (.map kt et)) (hats : ats[0]? = some t) (hK : KeyT P kt κ) (hx : At G x (MapP b)) (hy : At G y (V k)) (hm' : mdel m k = m')
    (hm : Repl S (MapR b m) [MapR b m'] S') (h : J n e G S' (wpList P ops Q rest)) :
    J n e G S (wpList P ops Q (⟨none, .call ⟨.builtin .delete, #[x, y], ats⟩, ty, pos, af, none⟩ :: rest)) := by
  subst hm'
  intro a w hh
  refine wpList_plain rfl fun K hK' => ?_
  have e1 : a.eval x = .map (some b) := hx.rep hh
  have ek := hy.rep hh
  obtain ⟨es, c, e4, e5, e6, e7⟩ := hh.res _ hm.mem
  have h1 := hK.check es.isEmpty ek
  have h2 := hK.now ek e5.keys
  have hTT : TT e S' = TT e S := hm.feet_tt rfl
  have hkeep : ∀ o, Keeps w (TT e S) (setBlock w b o) (TT e S') := fun o => by
    rw [hTT]
    exact (setBlock_ext w b o).keeps (by intro c hc; simp at hc; subst hc; exact .inr (List.mem_flatMap.2 ⟨_, hm.mem, by simp [MapR]⟩)) (fun _ _ h => h)
  have key : ∃ (es' : Array MapEntry), (Builtin.delete_ ats ty #[.map (some b), a.eval y]).run P w = .ok (.tuple #[]) (setBlock w b (.map es' c)) ∧ Ents w (TT e S) es'.toList (mdel m k) ∧ (∀ en ∈ es'.toList, en.born < c) ∧ (es'.toList.map (·.born)).Nodup := by
    rcases run_find hK ek 0 e5 with ⟨h3, h4, h5, h9⟩ | ⟨j, u, zz, en, h3, _, h6, h7, h5, h8, h9⟩
    · refine ⟨es, ?_, by rw [h9]; exact e5, e6, e7⟩
      simp only [Builtin.delete_, hats, List.getElem?_toArray, List.getElem?_cons_zero, List.getElem?_cons_succ, Sem.run_bind, run_underlying ht, Result.andThen_ok, run_getO e4, h1, h2, h5, run_setO e4, Sem.run_pure]
    · rw [Nat.zero_add] at h5
      have her : (es.eraseIdxIfInBounds j).toList = es.toList.eraseIdx j := by simp
      refine ⟨es.eraseIdxIfInBounds j, ?_, by rw [her, h9]; exact e5.erase j, ?_, ?_⟩
      · simp only [Builtin.delete_, hats, List.getElem?_toArray, List.getElem?_cons_zero, List.getElem?_cons_succ, Sem.run_bind, run_underlying ht, Result.andThen_ok, run_getO e4, h1, h2, h5, run_setO e4, Sem.run_pure]
      · intro e' he'
        rw [her] at he'
        exact e6 _ (List.mem_of_mem_eraseIdx he')
      · rw [her, ChangeMaps.map_eraseIdx]
        exact e7.eraseIdx _
  obtain ⟨es', r1, r2, r3, r4⟩ := key
  unfold Oper.wp
  have hex : (execOp a.eval ⟨none, .call ⟨.builtin .delete, #[x, y], ats⟩, ty, pos, af, none⟩).run P w = .ok (.value (.tuple #[])) (setBlock w b (.map es' c)) := by
    simp only [execOp, resolve, invoke, builtin, Sem.run_bind, Sem.run_pure, Result.andThen_ok, List.map_toArray, List.map_cons, List.map_nil, e1, r1]
  rw [hex]
  refine hK' _ _ (h _ _ ?_)
  refine Holds.repl (a := a) hh hm (setBlock_ext w b _) (by simp [MapR]) (by simp [MapR]) ?_
  intro q hq
  simp at hq; subst hq
  exact ⟨es', c, setBlock_same e4, r2.mono (hkeep _), r3, r4⟩
theorem J_freezeM {t : Nat} {b : Nat} {m : List (κ × β)} {K : Act → World → Prop} (hf : find G t = some (MapP b)) (hm : Repl S (MapR b m) [] S') (h : J n e ((t, MapTo m) :: G) S' K) : J n e G S K := by
  intro a w hh
  have hl := hh.lose hm
  have hv : a.tmps.getD t undef = .map (some b) := hh.slots t _ hf
  obtain ⟨es, c, e4, e5, _⟩ := hh.res _ hm.mem
  refine h a w ⟨hl.size, hl.defers, fun t' Z hz => ?_, hl.res, hl.nodup, hl.own, hl.ext, hl.glob⟩
  rw [find_cons] at hz
  by_cases htt : t = t'
  · subst htt; rw [if_pos rfl] at hz; obtain rfl := Option.some.inj hz
    have hb : b ∈ feet S := List.mem_flatMap.2 ⟨_, hm.mem, by simp [MapR]⟩
    have hnd := hh.nodup
    refine ⟨b, es, c, hv, ?_, (Array.getElem?_eq_some_iff.1 e4).1, e4, e5.mono (fun c hc hn => ⟨fun ht => hn ?_, rfl⟩)⟩
    · rintro (ht | ht)
      · exact hh.apart b hb ht
      · obtain ⟨A, B, f1, f2⟩ := hm
        subst f1; subst f2
        simp only [List.append_nil, feet_append, feet_cons] at hnd ht
        rw [List.nodup_append] at hnd
        obtain ⟨n1, n2, n3⟩ := hnd
        rw [List.nodup_append] at n2
        rcases List.mem_append.1 ht with ht | ht
        · exact n3 b ht b (by simp [MapR]) rfl
        · exact n2.2.2 b (by simp [MapR]) b ht rfl
    · rcases ht with ht | ht
      · exact .inl ht
      · refine .inr ?_
        obtain ⟨A, B, f1, f2⟩ := hm
        subst f1; subst f2
        simp only [List.append_nil, feet_append, feet_cons] at ht ⊢
        rcases List.mem_append.1 ht with ht | ht
        · exact List.mem_append_left _ ht
        · exact List.mem_append_right _ (List.mem_append_right _ ht)
  · rw [if_neg htt] at hz; exact hl.slots t' Z hz
end
end Go.Sep
namespace Go.Sep
open Go
open Enc (V)
open Go.ChangeMaps (setBlock)
open Go.MapKept (bytes_beq run_checkKey run_findKey IsKey)
set_option linter.unusedSectionVars false
section
variable {P : Program}
theorem bytes_same {a b : Bytes} : ((⟨a.toArray⟩ : ByteArray) == ⟨b.toArray⟩) = decide (a = b) := by
  rw [Bool.eq_iff_iff, decide_eq_true_eq, bytes_beq]
  constructor
  · intro h; injection h with h; simpa using h
  · intro h; rw [h]
theorem str_equal {kt : TypeId} (ht : P.underlying kt = some .string) (a b : Bytes) (w : World) : (Op.equal kt (.string ⟨a.toArray⟩) (.string ⟨b.toArray⟩)).run P w = .ok (decide (a = b)) w := by
  have h := run_equalIn_string (P := P) w 9999 kt ⟨a.toArray⟩ ⟨b.toArray⟩ ht
  rw [bs_toList', bs_toList'] at h
  have : (a == b) = decide (a = b) := by rw [Bool.eq_iff_iff]; simp
  rw [this] at h
  exact h
theorem str_find {kt : TypeId} (ht : P.underlying kt = some .string) (a : Bytes) {w : World} {T : Nat → Prop} : ∀ (es : List MapEntry) (i : Nat), (∀ en ∈ es, ∃ y : Str, (V y).rep w T en.key) →
    ∃ r, Instr.findNow .string (.string ⟨a.toArray⟩) es i = some r ∧ (Instr.findAsking kt (.string ⟨a.toArray⟩) es i).run P w = .ok r w
  | [], _, _ => ⟨none, rfl, rfl⟩
  | en :: es, i, h => by
    obtain ⟨y, hy⟩ := h en (by simp)
    have hy' : en.key = .string ⟨y.l.toArray⟩ := hy
    obtain ⟨r, h1, h2⟩ := str_find ht a es (i + 1) (fun e he => h e (by simp [he]))
    have h3 := str_equal (P := P) ht a y.l w
    rw [Instr.findNow, Instr.findAsking, hy']
    simp only [Instr.sameNow, bytes_same, Sem.run_bind, h3, Result.andThen_ok]
    by_cases hc : a = y.l
    · rw [decide_eq_true hc]; exact ⟨_, rfl, rfl⟩
    · rw [decide_eq_false hc]; exact ⟨r, h1, h2⟩
theorem keyStr {kt : TypeId} (ht : P.underlying kt = some .string) : KeyT P kt Str where
  check {w T v x} em h := by
    obtain rfl : v = .string ⟨x.l.toArray⟩ := h
    exact run_checkKey (n := 9999) ht (by simp [IsKey]) em
  equal {w T v u x y} h1 h2 := by
    obtain rfl : v = .string ⟨x.l.toArray⟩ := h1
    obtain rfl : u = .string ⟨y.l.toArray⟩ := h2
    have e : decide (x.l = y.l) = decide (x = y) := by
      by_cases h : x = y
      · simp [h]
      · have : x.l ≠ y.l := fun h' => h (by cases x; cases y; simp at h'; rw [h'])
        simp [h, this]
    rw [← e]
    exact str_equal ht x.l y.l w
  same {w T v u x} h1 h2 := by
    obtain rfl : v = .string ⟨x.l.toArray⟩ := h1
    obtain rfl : u = .string ⟨x.l.toArray⟩ := h2
    exact ⟨rfl, by unfold Instr.sameBits; simp [bytes_same]⟩
  now {w T v x es} h1 h2 := by
    obtain rfl : v = .string ⟨x.l.toArray⟩ := h1
    obtain ⟨r, h3, h4⟩ := str_find (P := P) ht x.l es 0 h2
    rw [h4]
    exact run_findKey ht h3
theorem keyOid {kt el : TypeId} (ht : P.underlying kt = some (.array 20 el)) (he : P.underlying el = some (.int .u8)) (hs : (P.info? el).map (·.size) = some 1) : KeyT P kt Oid where
  check {w T v x} em h := by
    obtain rfl := oid_val h
    have key : ∀ (r k : Nat), k + r = 20 → (Sem.run P (forIn (List.range' k r) () fun i _ => do
            Instr.checkKey em 9999 el (← part el (x.l.map u8v).toArray (i * (← sizeOf el)))
            pure (ForInStep.yield ())) w) = .ok () w := by
      intro r
      induction r with
      | zero => intro k _; rfl
      | succ r ih =>
        intro k hk
        have h1 := part_u8 (P := P) he x.l k (by rw [x.h]; omega) w
        rw [List.range'_succ]
        simp only [List.forIn_cons, Sem.run_bind, run_sizeOf hs, Result.andThen_ok, Nat.mul_one, h1]
        have h2 : (Instr.checkKey em 9999 el (u8v (x.l[k]'(by rw [x.h]; omega)))).run P w = .ok () w := by
          rw [Instr.checkKey]; simp [run_underlying he, u8v]
        have h3 := ih (k + 1) (by omega)
        simp only [Sem.run_bind, run_sizeOf hs, Result.andThen_ok, Nat.mul_one, Sem.run_pure, h2] at h3 ⊢
        exact h3
    rw [Instr.checkKey]
    simp only [Sem.run_bind, run_underlying ht, Result.andThen_ok, Std.Legacy.Range.forIn_eq_forIn_range', Std.Legacy.Range.size, Nat.sub_zero, Nat.add_one_sub_one, Nat.div_one]
    rw [key 20 0 (by omega)]; rfl
  equal {w T v u x y} h1 h2 := by
    obtain rfl := oid_val h1; obtain rfl := oid_val h2
    have := run_equal_arr (P := P) (d := 9998) ht he hs x.l y.l x.h y.h w
    have e : decide (x.l = y.l) = decide (x = y) := by
      by_cases h : x = y
      · simp [h]
      · have : x.l ≠ y.l := fun h' => h (Arr.ext' h')
        simp [h, this]
    rw [← e]
    exact this
  same {w T v u x} h1 h2 := by
    obtain rfl := oid_val h1; obtain rfl := oid_val h2
    refine ⟨rfl, ?_⟩
    unfold Instr.sameBits
    simp only [beq_self_eq_true, Bool.true_and, List.all_eq_true]
    intro p hp
    obtain ⟨a, b⟩ := p
    have hab : a = b ∧ ∃ q : UInt8, a = u8v q := by
      rw [List.zip_eq_zipWith, List.mem_iff_getElem] at hp
      obtain ⟨i, hi, he⟩ := hp
      simp at he
      refine ⟨he.1.symm.trans he.2, _, he.1.symm⟩
    obtain ⟨rfl, q, rfl⟩ := hab
    simp [u8v, Instr.sameBits]
  now {w T v x es} _ _ := run_findKey_eq w (by rw [ht]) v es
end
section
variable {P : Program} {κ β : Type} [Enc κ] [DecidableEq κ] [Enc β]
def RangeR (r bm : Nat) (m left : List (κ × β)) (cur : Option (κ × β)) : Res where
  foot := [r, bm]
  holds w T := ∃ (es : Array MapEntry) (clock since : Nat) (seen : Array Nat), w.heap[bm]? = some (.map es clock) ∧ w.heap[r]? = some (.mapIter (some bm) since seen clock) ∧ since ≤ clock ∧ Ents w T es.toList m ∧
    (∀ en ∈ es.toList, en.born < since) ∧ (es.toList.map (·.born)).Nodup ∧ Ents w T (leftOf es seen).toList left ∧
    (∀ p, cur = some p → ∃ en, en ∈ es.toList ∧ seen.back? = some en.born ∧ (V p.1).rep w T en.key ∧ (V p.2).rep w T en.val)
  lt := fun ⟨_, _, _, _, h1, h2, _⟩ b hb => by
    simp at hb
    rcases hb with rfl | rfl
    · exact (Array.getElem?_eq_some_iff.1 h2).1
    · exact (Array.getElem?_eq_some_iff.1 h1).1
  mono := fun ⟨es, c, si, seen, h1, h2, h3, h4, h5, h6, h7, h8⟩ k1 k2 => by
    have hk := fun c hc ht => And.intro (k2 c hc ht) (k1 c hc (.inr ht))
    exact ⟨es, c, si, seen, (k1 _ (Array.getElem?_eq_some_iff.1 h1).1 (.inl (by simp))).trans h1, (k1 _ (Array.getElem?_eq_some_iff.1 h2).1 (.inl (by simp))).trans h2, h3, h4.mono hk, h5, h6, h7.mono hk,
      fun p hp => let ⟨en, e1, e2, e3, e4⟩ := h8 p hp; ⟨en, e1, e2, (V p.1).mono e3 hk, (V p.2).mono e4 hk⟩⟩
theorem Ents.mem {w : World} {T : Nat → Prop} : ∀ {es : List MapEntry} {m : List (κ × β)}, Ents w T es m → ∀ {j : Nat} {en : MapEntry}, es[j]? = some en → ∃ p, m[j]? = some p ∧ (V p.1).rep w T en.key ∧ (V p.2).rep w T en.val
  | [], [], _, j, en, h => by simp at h
  | e1 :: es, p :: m, h, 0, en, hj => by simp at hj; subst hj; exact ⟨p, rfl, h.1, h.2.1⟩
  | e1 :: es, p :: m, h, j + 1, en, hj => by simpa using Ents.mem h.2.2 (j := j) (by simpa using hj)
  | [], _ :: _, h, _, _, _ => h.elim
  | _ :: _, [], h, _, _, _ => h.elim
variable {n : Nat} {e : Env P} {G : Ctx} {S S' : List Res} {Q : Exit → Act → World → Prop}
variable {d : Option Tmp} {dd : Nat} {t : TypeId} {x y z : Operand} {ty : TypeId} {pos : String} {af : Array Edge} {g : Option (Nat × Bool)} {ops : Array Oper} {rest : List Oper}
theorem leftOf_nil (es : Array MapEntry) : leftOf es #[] = es := by
  unfold leftOf
  rw [Array.filter_eq_self]
  simp
theorem leftOf_push {es : Array MapEntry} {seen : Array Nat} (hn : (es.toList.map (·.born)).Nodup) {j : Nat} {en : MapEntry} (hj : (leftOf es seen).toList[j]? = some en) :
    (leftOf es (seen.push en.born)).toList = (leftOf es seen).toList.eraseIdx j := by
  unfold leftOf at *
  rw [Array.toList_filter] at *
  rw [Array.toList_filter]
  have e1 : (es.toList.filter fun e => !(seen.push en.born).contains e.born) = (es.toList.filter fun e => !seen.contains e.born).filter fun e => e.born != en.born := by
    rw [List.filter_filter]
    congr 1; funext e
    simp [Array.contains_push, Bool.and_comm, bne]
    by_cases h : e.born = en.born <;> simp [h]
  rw [e1]
  have hn2 : ((es.toList.filter fun e => !seen.contains e.born).map (·.born)).Nodup := hn.sublist (List.Sublist.map _ List.filter_sublist)
  generalize (es.toList.filter fun e => !seen.contains e.born) = L at hj hn2
  clear e1 hn
  induction L generalizing j with
  | nil => simp at hj
  | cons a L ih =>
    simp only [List.map_cons, List.nodup_cons] at hn2
    cases j with
    | zero =>
      simp at hj; subst hj
      simp only [List.filter_cons, bne_self_eq_false, Bool.false_eq_true, if_false, List.eraseIdx_zero, List.tail_cons]
      rw [List.filter_eq_self]
      intro x hx
      simp only [bne_iff_ne, ne_eq]
      intro he
      exact hn2.1 (he ▸ List.mem_map_of_mem hx)
    | succ j =>
      simp at hj
      have hne : a.born ≠ en.born := fun he => hn2.1 (he ▸ List.mem_map_of_mem (List.mem_of_getElem? hj))
      have : (a.born != en.born) = true := by simp [hne]
      simp only [List.filter_cons, this, if_true, List.eraseIdx_cons_succ, ih hj hn2.2]
theorem J_range {kt et : TypeId} {bm : Nat} {m : List (κ × β)} (ht : P.underlying t = some (.map kt et)) (hx : At G x (MapP bm)) (hm : Repl S (MapR bm m) [] S') (hlt : Nat.blt dd n = true)
    (h : ∀ r, J n e ((dd, Ptr r 0) :: G) (RangeR r bm m m none :: S') (wpList P ops Q rest)) :
    J n e G S (wpList P ops Q (⟨some dd, .range t x, ty, pos, af, none⟩ :: rest)) := by
  intro a w hh
  have hlt' : dd < n := by simpa [Nat.blt_eq] using hlt
  refine wpList_plain rfl fun K hK => ?_
  have e1 : a.eval x = .map (some bm) := hx.rep hh
  obtain ⟨es, c, e4, e5, e6, e7⟩ := hh.res _ hm.mem
  have hbl := (Array.getElem?_eq_some_iff.1 e4).1
  unfold Oper.wp
  have hex : (execOp a.eval ⟨some dd, .range t x, ty, pos, af, none⟩).run P w = .ok (.value (.pointer (some ⟨w.heap.size, 0, none⟩))) (w.alloc (.mapIter (some bm) c #[] c)) := by
    simp only [execOp, e1, Instr.range, Sem.run_bind, run_underlying ht, Result.andThen_ok, run_getO e4, Sem.run_pure]
    rfl
  rw [hex]
  obtain ⟨B, hB1, hB2⟩ := hm.split
  have hB : S'.Perm B := by simpa using hB2
  have hnew := heap_alloc_new w (.mapIter (some bm) c #[] c)
  have hch := hh.change (A := [MapR bm m]) (A' := [RangeR w.heap.size bm m m none]) (B := S') (hB1.trans (hB.symm.append_left _)) (w' := w.alloc (.mapIter (some bm) c #[] c)) (Ext.alloc _ _ _)
    (by intro b hb; simp [RangeR, MapR] at hb ⊢; omega) (by simp [RangeR]; omega) (by
      intro q hq
      simp at hq; subst hq
      have hk : Keeps w (TT e S) (w.alloc (.mapIter (some bm) c #[] c)) (TT e ([RangeR w.heap.size bm m m none] ++ S')) := by
        refine (Ext.alloc (feet [MapR bm m]) w _).keeps (fun b hb => .inr ?_) ?_
        · simp [MapR] at hb; subst hb; exact List.mem_flatMap.2 ⟨_, hm.mem, by simp [MapR]⟩
        · intro b hb hnt ht'
          rcases ht' with ht' | ht'
          · exact hnt (.inl ht')
          · rw [feet_append] at ht'
            rcases List.mem_append.1 ht' with ht' | ht'
            · simp [RangeR] at ht'
              rcases ht' with rfl | rfl
              · omega
              · exact hnt (.inr (List.mem_flatMap.2 ⟨_, hm.mem, by simp [MapR]⟩))
            · refine hnt (.inr ?_)
              have := (feet_perm hB1).mem_iff (a := b)
              rw [this, feet_append]
              refine List.mem_append_right _ ((feet_perm hB).mem_iff.1 ht')
      exact ⟨es, c, c, #[], (heap_alloc_old w _ hbl).trans e4, hnew, Nat.le_refl _, e5.mono hk, e6, e7, by rw [leftOf_nil]; exact e5.mono hk, by simp⟩)
  exact hK _ _ (h w.heap.size _ _ (hch.put rfl hlt'))
theorem J_next {r bm : Nat} {m left : List (κ × β)} {cur : Option (κ × β)} {S' : List (κ × β) → Option (κ × β) → List Res} (hx : At G x (Ptr r 0))
    (hm : ∀ l c, Repl S (RangeR r bm m left cur) [RangeR r bm m l c] (S' l c)) (hlt : Nat.blt dd n = true)
    (h1 : left = [] → J n e ((dd, VTup [VBool false]) :: G) S (wpList P ops Q rest))
    (h2 : ∀ (j : Nat) (p : κ × β), left[j]? = some p → J n e ((dd, VTup [VBool true, V p.1, V p.2]) :: G) (S' (left.eraseIdx j) (some p)) (wpList P ops Q rest)) :
    J n e G S (wpList P ops Q (⟨some dd, .next x false, ty, pos, af, none⟩ :: rest)) := by
  intro a w hh
  have hlt' : dd < n := by simpa [Nat.blt_eq] using hlt
  refine wpList_plain rfl fun K hK => ?_
  have e1 : a.eval x = .pointer (some ⟨r, 0, none⟩) := hx.rep hh
  obtain ⟨es, c, si, seen, q1, q2, q3, q4, q5, q6, q7, q8⟩ := hh.res _ (hm left cur).mem
  unfold Oper.wp
  rcases run_next_at (P := P) w ty r bm si c seen es c q2 q1 q5 q3 with ⟨hs, hrun⟩ | ⟨en, hen, w1, hw1, hrun⟩
  · have hex : (execOp a.eval ⟨some dd, .next x false, ty, pos, af, none⟩).run P w = .ok (.value (.tuple #[.bool false])) w := by
      simp only [execOp, e1, Sem.run_bind, hrun, Result.andThen_ok, Sem.run_pure]
    rw [hex]
    have hl0 : left = [] := by
      have := q7.len
      simp only [Array.length_toList, hs] at this
      exact List.eq_nil_of_length_eq_zero this.symm
    refine hK _ _ (h1 hl0 _ _ (hh.put ?_ hlt'))
    exact ⟨[.bool false], rfl, rfl, fun i Z z hZ hz => by
      match i with
      | 0 => simp at hZ hz; subst hZ; subst hz; rfl
      | i + 1 => simp at hZ⟩
  · have hex : (execOp a.eval ⟨some dd, .next x false, ty, pos, af, none⟩).run P w = .ok (.value (.tuple #[.bool true, en.key, en.val])) (setBlock w1 r (.mapIter (some bm) si (seen.push en.born) c)) := by
      simp only [execOp, e1, Sem.run_bind, hrun, Result.andThen_ok, Sem.run_pure]
    rw [hex]
    obtain ⟨j, hjl, hj⟩ := List.mem_iff_getElem.1 hen
    have hj' : (leftOf es seen).toList[j]? = some en := by rw [List.getElem?_eq_getElem hjl, hj]
    obtain ⟨p, hp, hp1, hp2⟩ := q7.mem hj'
    have hwh : w1.heap = w.heap := by rcases hw1 with rfl | rfl <;> rfl
    have hx1 : Ext [] w w1 := by rcases hw1 with rfl | rfl; exact Ext.refl _ _; exact Ext.drew _ _
    have hx2 : Ext (RangeR r bm m left cur).foot w (setBlock w1 r (.mapIter (some bm) si (seen.push en.born) c)) :=
      ⟨(setBlock_ext w1 r _).os.trans hx1.os, (setBlock_ext w1 r _).tape.trans hx1.tape, (setBlock_ext w1 r _).output.trans hx1.output, by simp [setBlock, hwh],
       fun i hi hn => by simp [RangeR] at hn; simp [setBlock, hwh, Array.getElem?_setIfInBounds, Ne.symm hn.1]⟩
    have hTT : TT e (S' (left.eraseIdx j) (some p)) = TT e S := (hm (left.eraseIdx j) (some p)).feet_tt rfl
    have hk : Keeps w (TT e S) (setBlock w1 r (.mapIter (some bm) si (seen.push en.born) c)) (TT e S) :=
      hx2.keeps (fun b hb => .inr (List.mem_flatMap.2 ⟨_, (hm left cur).mem, hb⟩)) (fun _ _ h => h)
    have hrb : r ≠ bm := by intro he; subst he; rw [q1] at q2; cases q2
    have henm : en ∈ es.toList := by
      have := List.getElem_mem hjl
      rw [hj] at this
      unfold leftOf at this
      simp at this
      simpa using this.1
    have hrl := (Array.getElem?_eq_some_iff.1 q2).1
    have hnew : Holds n e G (S' (left.eraseIdx j) (some p)) a (setBlock w1 r (.mapIter (some bm) si (seen.push en.born) c)) := by
      refine hh.repl (hm (left.eraseIdx j) (some p)) hx2 (by simp [RangeR]) (by simp [RangeR, hrb]) ?_
      intro q hq
      simp at hq; subst hq
      rw [hTT]
      refine ⟨es, c, si, seen.push en.born, ?_, ?_, q3, q4.mono hk, q5, q6, ?_, ?_⟩
      · simp [setBlock, hwh, Array.getElem?_setIfInBounds, hrb, q1]
      · simp [setBlock, hwh, hrl]
      · rw [leftOf_push q6 hj']; exact (q7.erase j).mono hk
      · intro p' hp'
        obtain rfl := Option.some.inj hp'
        exact ⟨en, henm, by simp, (V p.1).mono hp1 hk, (V p.2).mono hp2 hk⟩
    refine hK _ _ (h2 j p hp _ _ (hnew.put ?_ hlt'))
    rw [hTT]
    refine ⟨[.bool true, en.key, en.val], rfl, rfl, fun i Z z hZ hz => ?_⟩
    match i with
    | 0 => simp at hZ hz; subst hZ; subst hz; rfl
    | 1 => simp at hZ hz; subst hZ; subst hz; exact (V p.1).mono hp1 hk
    | 2 => simp at hZ hz; subst hZ; subst hz; exact (V p.2).mono hp2 hk
    | i + 3 => simp at hZ
theorem Q_entry {r bm : Nat} {m left : List (κ × β)} {p : κ × β} (hx : At G x (Ptr r 0)) (hm : Repl S (RangeR r bm m left (some p)) [] S') :
    Quiet P n e G S ⟨d, .entry x, ty, pos, af, g⟩ (VTup [V p.1, V p.2]) :=
  Q_of_run fun a w hh => by
    have e1 : a.eval x = .pointer (some ⟨r, 0, none⟩) := hx.rep hh
    obtain ⟨es, c, si, seen, q1, q2, q3, q4, q5, q6, q7, q8⟩ := hh.res _ hm.mem
    obtain ⟨en, h1, h2, h3, h4⟩ := q8 p rfl
    have hf : es.find? (·.born == en.born) = some en := by rw [← Array.find?_toList]; exact find_born en es.toList q6 h1
    have hg1 : (getObj r).run P w = .ok (.mapIter (some bm) si seen c) w := by simp [getObj, Sem.run, q2]
    have hrun : (Instr.entry (.pointer (some ⟨r, 0, none⟩))).run P w = .ok (.tuple #[en.key, en.val]) w := by
      simp only [Instr.entry, Sem.run_bind, hg1, Result.andThen_ok, h2, run_getO q1, bne_self_eq_false, Bool.false_eq_true, if_false, hf, Sem.run_pure]
    exact ⟨.tuple #[en.key, en.val], w, by simp only [execOp, e1, Sem.run_bind, hrun, Result.andThen_ok, Sem.run_pure], Ext.refl _ _, vtup2 h3 h4⟩
theorem Lens.idxO {β : Type} [Enc β] {m : Nat} {off : Nat} (i : Nat) (ho : off = i * Enc.size β) (h : i < m) : Lens (Arr m β) β off (fun x => x.get i h) (fun x y => x.set i y) := Lens.idx i h ho
theorem Lens.sndO {α β γ : Type} [Enc α] [Enc β] [Enc γ] {off off' : Nat} {get : β → γ} {set : β → γ → β} (ho : off' = Enc.size α + off) (L : Lens β γ off get set) :
    Lens (α × β) γ off' (fun x => get x.2) (fun x y => (x.1, set x.2 y)) := Lens.snd L ho
theorem Fn.row {P : Program} {f : FuncId} {Xs : List VP} {α : Type} [Enc α] {el : TypeId} {l : List α} (h : Fn P f Xs [] (fun _ : Value => True) Is (fun v => [RowR el v l])) : FnP P f Xs (Sl l) :=
  ⟨h.1, fun w T vs h1 h2 h3 h4 h5 h6 => (h.2 w T vs h1 h2 h3 h4 h5 h6).mono fun ex w' ⟨i, v, a1, a2, a3, a4, a5, a6, a7⟩ => by
    obtain rfl : v = i := a6
    obtain ⟨xs, b1, b2⟩ := a7 (RowR el v l) (by simp)
    have hT : ∀ b, v.ownBlock = some b → ¬ T b := fun b hb ht => by
      have := a5 b (by simp [RowR, hb])
      have := h1 b ht
      simp at *
      omega
    refine ⟨(), v, trivial, a2, a3, by simp, by simp, ownsRow_sl b1 ((cpl l).mono b2 (fun c hc hn => ⟨fun ht => hn ?_, rfl⟩)) (fun b hb ht => ?_), by simp⟩
    · rcases ht with ht | ht
      · exact .inl ht
      · simp at ht
    · rcases ht with ht | ht
      · exact hT b hb ht.1
      · simp at ht⟩
theorem Q_conv32to64 {P : Program} {n : Nat} {e : Env P} {G : Ctx} {S : List Res} {u : UInt32} {d : Option Tmp} {x : Operand} {ty : TypeId} {pos : String} {af : Array Edge} {g : Option (Nat × Bool)} {src dst : TypeId} (hx : At G x (VInt .u32 (u.toNat : Nat))) (hs : (P.underlying src).isSome = true) (hd : P.underlying dst = some (.int .i64)) :
    Quiet P n e G S ⟨d, .convert src dst x, ty, pos, af, g⟩ (VInt .i64 (u.toNat : Nat)) := by
  have := u.toNat_lt
  exact Q_conv64 hx hs hd (by omega) (by omega)
theorem Q_conv8to64 {P : Program} {n : Nat} {e : Env P} {G : Ctx} {S : List Res} {u : UInt8} {d : Option Tmp} {x : Operand} {ty : TypeId} {pos : String} {af : Array Edge} {g : Option (Nat × Bool)} {src dst : TypeId} (hx : At G x (VInt .u8 (u.toNat : Nat))) (hs : (P.underlying src).isSome = true) (hd : P.underlying dst = some (.int .i64)) :
    Quiet P n e G S ⟨d, .convert src dst x, ty, pos, af, g⟩ (VInt .i64 (u.toNat : Nat)) := by
  have := u.toNat_lt
  exact Q_conv64 hx hs hd (by omega) (by omega)
theorem vtup0 (w : World) (T : Nat → Prop) : (VTup []).rep w T (.tuple #[]) := ⟨[], rfl, rfl, fun _ _ _ h => by simp at h⟩
theorem At.eq {G : Ctx} {x : Operand} {X Y : VP} (h : At G x X) (he : X = Y) : At G x Y := he ▸ h
theorem At.toStr {G : Ctx} {x : Operand} {l : Bytes} (h : At G x (VStr l)) : At G x (V (⟨l⟩ : Str)) := h
theorem Q_strOf {P : Program} {n : Nat} {e : Env P} {G : Ctx} {S : List Res} {o : Oper} {z : Str} {l : Bytes} (h : Quiet P n e G S o (V z)) (hz : z = ⟨l⟩) : Quiet P n e G S o (VStr l) := by subst hz; exact h
theorem Repl.map {κ β : Type} [Enc κ] [DecidableEq κ] [Enc β] {b : Nat} {m m' : List (κ × β)} (h : Repl S (MapR b m) [] S') (he : m = m') : Repl S (MapR b m') [] S' := he ▸ h
theorem Repl.range {r bm : Nat} {m l l' : List (κ × β)} {c c' : Option (κ × β)} (h : Repl S (RangeR r bm m l c) [] S') (he : l = l' ∧ c = c') : Repl S (RangeR r bm m l' c') [] S' := by
  obtain ⟨rfl, rfl⟩ := he; exact h
theorem Repl.same {r r' : Res} (h : Repl S r [] S') (he : r = r') : Repl S r' [] S' := he ▸ h
end
end Go.Sep
namespace Go.Sep
open Go
open Enc (V)
section
variable {P : Program} {n : Nat} {e : Env P} {G : Ctx} {S S' : List Res} {Q : Exit → Act → World → Prop}
variable {α : Type} [Enc α] {d : Option Tmp} {dd : Nat} {t tn : TypeId} {x y hi : Operand} {ty : TypeId} {pos : String} {af : Array Edge} {g : Option (Nat × Bool)} {ops : Array Oper} {rest : List Oper}
theorem Q_capV {a : Option Addr} {l c : Nat} {el : TypeId} {ats : Array TypeId} (ht : P.underlying t = some (.slice el)) (hats : ats[0]? = some t) (hx : At G x (Is (.slice a l c))) :
    Quiet P n e G S ⟨d, .call ⟨.builtin .cap, #[x], ats⟩, ty, pos, af, g⟩ (VInt .i64 c) :=
  Q_of_run fun act w hh => by
    have e1 : act.eval x = .slice a l c := hx.rep hh
    exact ⟨_, w, by simp [execOp, resolve, invoke, builtin, Builtin.cap_, hats, e1, run_underlying ht, goInt], Ext.refl _ _, rfl⟩
theorem Q_lenV {a : Option Addr} {l c : Nat} {el : TypeId} {ats : Array TypeId} (ht : P.underlying t = some (.slice el)) (hats : ats[0]? = some t) (hx : At G x (Is (.slice a l c))) :
    Quiet P n e G S ⟨d, .call ⟨.builtin .len, #[x], ats⟩, ty, pos, af, g⟩ (VInt .i64 l) :=
  Q_of_run fun act w hh => by
    have e1 : act.eval x = .slice a l c := hx.rep hh
    exact ⟨_, w, by simp [execOp, resolve, invoke, builtin, Builtin.len_, hats, e1, run_underlying ht, goInt], Ext.refl _ _, rfl⟩
theorem Q_cutV {a : Option Nat} {l c : Nat} {k : IntKind} {j : Int} {el sz : Nat} (ht : P.underlying t = some (.slice el)) (hs : (P.info? el).map (·.size) = some sz) (hx : At G x (Is (.slice (a.map fun g => ⟨g, 0, none⟩) l c))) (hh : At G hi (VInt k j)) (h0 : 0 ≤ j) (h1 : j ≤ c) (hc : c ≤ maxLen) :
    Quiet P n e G S ⟨d, .slice t x none (some hi) none, ty, pos, af, g⟩ (Is (.slice (a.map fun g => ⟨g, 0, none⟩) j.toNat c)) :=
  Q_of_run fun act w hw => by
    have e1 : act.eval x = .slice (a.map fun g => ⟨g, 0, none⟩) l c := hx.rep hw
    have e2 : act.eval hi = .int k j := hh.rep hw
    have hb1 : ∀ (cd : BoundsCode), (Instr.sliceBound (.int k j) c cd).run P w = .ok j.toNat w := fun cd => run_sliceBound w k j _ cd (by omega) (by omega)
    refine ⟨_, w, ?_, Ext.refl _ _, rfl⟩
    cases a with
    | none => simp [execOp, e1, e2, Instr.sliceAt, Instr.slice, Instr.sliceBounds, run_underlying ht, hb1, run_sizeOf hs]
    | some g => simp [execOp, e1, e2, Instr.sliceAt, Instr.slice, Instr.sliceBounds, run_underlying ht, hb1, run_sizeOf hs, addr_add]
theorem J_growNil (α : Type) [Enc α] {el by_ : Nat} {kq kn : IntKind} {k : Nat} (hE : GoEl P el α by_) (ht : P.underlying t = some (.slice el)) (htn : P.underlying tn = some (.int kn)) (hx : At G x (Is (.slice none 0 0))) (hy : At G y (VInt kq (k : Nat)))
    (h0 : 0 < k) (hb : k * by_ ≤ 140737488355328) (hkl : k ≤ 9223372036854775807) (hlt : Nat.blt dd n = true) (h : ∀ g c, 0 < c ∧ c ≤ maxLen → J n e ((dd, Is (.slice (some ⟨g, 0, none⟩) k c)) :: G) (RowR el (.slice (some ⟨g, 0, none⟩) 0 c) ([] : List α) :: S) (wpList P ops Q rest)) :
    J n e G S (wpList P ops Q (⟨some dd, .call ⟨.builtin .append, #[x, y], #[t, tn]⟩, ty, pos, af, none⟩ :: rest)) := by
  intro a w hh
  have hlt' : dd < n := by simpa [Nat.blt_eq] using hlt
  refine wpList_plain rfl fun K hK => ?_
  have e1 : a.eval x = .slice none 0 0 := hx.rep hh
  have e2 : a.eval y = .int kq (k : Nat) := hy.rep hh
  obtain ⟨i, z, hi, hz, hs, hbt, hzs⟩ := hE.parts
  have hpos := hE.pos
  have hk : k ≤ maxLen := by simp only [maxLen]; omega
  have hfit : Builtin.nextslicecap (0 + k) 0 * i.bytes ≤ 281474976710656 := growslice_fits (by omega) (by rw [hbt]; simpa using hb)
  have hrun := Lib.run_append_grow_zeros (P := P) w t tn ty el i z kq kn ht htn hi hz none 0 0 [] (run_firstCells_none w.drew i.size 0 0 0) k h0 (by rw [hs]; exact hpos) (by omega) (by omega) (by rw [hbt]; omega) hfit
  have hge := grownCap_ge w (0 + k) 0 el
  have hle := grownCap_le_maxLen w (0 + k) 0 el (by omega)
  unfold Oper.wp
  have hex : (execOp a.eval ⟨some dd, .call ⟨.builtin .append, #[x, y], #[t, tn]⟩, ty, pos, af, none⟩).run P w =
      .ok (.value (.slice (some ⟨w.heap.size, 0, none⟩) (0 + k) (grownCap w (0 + k) 0 el))) (w.drew.alloc (.cells (([] : List Value).toArray ++ Builtin.zeroCells z.cells k ++ Builtin.zeroCells z.cells (grownCap w (0 + k) 0 el - (0 + k))) el)) := by
    simp only [execOp, resolve, invoke, builtin, Sem.run_bind, Sem.run_pure, Result.andThen_ok, List.map_toArray, List.map_cons, List.map_nil, e1, e2, hrun]
  rw [hex]
  have hn := heap_alloc_new w.drew (.cells (([] : List Value).toArray ++ Builtin.zeroCells z.cells k ++ Builtin.zeroCells z.cells (grownCap w (0 + k) 0 el - (0 + k))) el)
  have hx2 : Ext [] w (w.drew.alloc (.cells (([] : List Value).toArray ++ Builtin.zeroCells z.cells k ++ Builtin.zeroCells z.cells (grownCap w (0 + k) 0 el - (0 + k))) el)) := (Ext.drew [] w).trans (Ext.alloc [] _ _)
  have hsz : w.drew.heap.size = w.heap.size := rfl
  have e3 : 0 + k = k := by omega
  rw [e3] at hge hle hn hx2 ⊢
  refine hK _ _ (h w.heap.size (grownCap w k 0 el) ⟨by omega, hle⟩ _ _ ((hh.new (r := RowR el (.slice (some ⟨w.heap.size, 0, none⟩) 0 (grownCap w k 0 el)) ([] : List α)) hx2 (by intro b hb; simp [RowR, Value.ownBlock] at hb; omega) (by simp [RowR, Value.ownBlock])
    ⟨[], ⟨by simp, .inr ⟨w.heap.size, _, _, rfl, Nat.zero_le _, hn, Nat.zero_le _, hle, ?_, by simp⟩⟩, rfl⟩).put rfl hlt'))
  simp only [Array.size_append, List.size_toArray, List.length_nil, size_zeroCells, hzs, Nat.zero_add, ← Nat.add_mul]
  congr 1
  omega
theorem Q_callV {f : FuncId} {o : Operand} {xs : List Operand} {Xs : List VP} {R : VP} {ats : Array TypeId} (hc : FnP P f Xs R) (ho : At G o (Is (.func (.func f) #[] #[]))) (ha : Ats G xs Xs) :
    Quiet P n e G S ⟨d, .call ⟨.value o, xs.toArray, ats⟩, ty, pos, af, g⟩ R := by
  intro a w hh K Q hK
  unfold Oper.wp
  have e1 : a.eval o = .func (.func f) #[] #[] := ho.rep hh
  have hex : (execOp a.eval ⟨d, .call ⟨.value o, xs.toArray, ats⟩, ty, pos, af, g⟩).run P w = .ok (.enter f (xs.map a.eval).toArray) w := by
    have : execOp a.eval ⟨d, .call ⟨.value o, xs.toArray, ats⟩, ty, pos, af, g⟩ = (do let q ← Deferred.ofValue (a.eval o) (xs.toArray.map a.eval); invoke q.target q.args) := rfl
    rw [this, e1]
    have h2 : (do let q ← Deferred.ofValue (.func (.func f) #[] #[]) (xs.toArray.map a.eval); invoke q.target q.args : Sem Next) = callFunc f (#[] ++ xs.toArray.map a.eval ++ #[]) := rfl
    rw [h2, run_callFunc hc.1]
    simp
  rw [hex, Oper.upon_enter]
  refine (hc.2 w (TT e S) (xs.map a.eval) hh.T_lt (by simp) (by simp) (by simp) hh.glob (ats_args ha hh)).mono ?_
  rintro ex w' ⟨i, v, _, rfl, hx, _, _, hR, _⟩
  refine hK v w' (by simpa using hx) ?_
  have : TA (TT e S) [] [] = TT e S := by funext b; simp [TA]
  rw [this] at hR
  exact hR
theorem Q_gtrs {u v : Bytes} {t2 : TypeId} (hx : At G x (VStr u)) (hy : At G y (VStr v)) : Quiet P n e G S ⟨d, .binOp .gtr t x y t2, ty, pos, af, g⟩ (VBool (!Op.bytesLess u v && !decide (u = v))) :=
  Q_str hx hy fun w => by simp [binOp, Op.stringOp, bs_toList, beq_dec]
def Finds (P : Program) (T : TypeId) (name : String) (f : FuncId) : Prop := ∀ rv w, (method (P.types.size + Made.depth) T rv name).run P w = .ok (f, rv) w
theorem J_invoke {T : TypeId} {name : String} {f : FuncId} {o : Operand} {xs : List Operand} {X : VP} {Xs : List VP} {Sc B : List Res} {ι : Type} {p : ι → Prop} {R : ι → VP} {S' : ι → List Res} {ats : Array TypeId} (hM : Finds P T name f) (hc : Fn P f (X :: Xs) Sc p R S')
    (ho : At G o (VIface T X)) (ha : Ats G xs Xs) (hs : Split S Sc B) (hlt : Nat.blt dd n = true)
    (h : ∀ i, p i → J n e ((dd, R i) :: G) (S' i ++ B) (wpList P ops Q rest)) :
    J n e G S (wpList P ops Q (⟨some dd, .call ⟨.invoke o name, xs.toArray, ats⟩, ty, pos, af, none⟩ :: rest)) := by
  intro a w hh
  have hlt' : dd < n := by simpa [Nat.blt_eq] using hlt
  refine wpList_plain rfl fun K hK => ?_
  unfold Oper.wp
  obtain ⟨rv, e1, e2⟩ := ho.rep hh
  have hex : (execOp a.eval ⟨some dd, .call ⟨.invoke o name, xs.toArray, ats⟩, ty, pos, af, none⟩).run P w = .ok (.enter f (rv :: xs.map a.eval).toArray) w := by
    simp only [execOp, resolve, invoke, Sem.run_bind, Sem.run_pure, Result.andThen_ok, e1]
    simp [callMethod, Sem.run_bind, hM rv w, run_callFunc hc.1]
    exact List.take_of_length_le (by simp)
  rw [hex, Oper.upon_enter]
  refine (call_core (vs := rv :: xs.map a.eval) hc hs hh ⟨e2, ats_args ha hh⟩).mono ?_
  rintro ex w' ⟨i, v, hp, rfl, hh', hR⟩
  exact hK _ _ (h i hp _ _ (hh'.put hR hlt'))
end
end Go.Sep
namespace Go.Sep
open Go
open Enc (V)
section
variable {P : Program} {n : Nat} {e : Env P} {G : Ctx} {S S' : List Res} {Q : Exit → Act → World → Prop}
variable {α : Type} [Enc α] {d : Option Tmp} {dd : Nat} {t tn : TypeId} {x y hi : Operand} {ty : TypeId} {pos : String} {af : Array Edge} {g : Option (Nat × Bool)} {ops : Array Oper} {rest : List Oper}
def elAddr (v : Value) (o : Nat) : Value := match v with
  | .slice (some a) _ _ => .pointer (some ⟨a.block, o, none⟩)
  | _ => undef
theorem RowR.some {w : World} {T : Nat → Prop} {el : TypeId} {v : Value} {l : List α} (h : (RowR el v l).holds w T) (hl : 0 < l.length) :
    ∃ g cap cur, v = .slice (some ⟨g, 0, none⟩) l.length cap ∧ w.heap[g]? = some (.cells cur el (0, 0)) ∧ l.length ≤ cap ∧ cap ≤ maxLen ∧ cur.size = cap * Enc.size α ∧ (cpl l).rep w T (cur.toList.take (l.length * Enc.size α)) := by
  obtain ⟨xs, h1, h2⟩ := h
  rcases h1.2 with ⟨_, hn⟩ | ⟨g, cap, cur, rfl, _, hg, k1, k2, k3, k4⟩
  · omega
  · subst k4; exact ⟨g, cap, cur, rfl, hg, k1, k2, k3, h2⟩
theorem Q_idxAddrR {l : List α} {k : IntKind} {i : Int} {el : TypeId} {v : Value} (ht : P.underlying t = some (.slice el)) (hs : (P.info? el).map (·.size) = some (Enc.size α))
    (hx : At G x (Is v)) (hm : Repl S (RowR el v l) [] S') (hy : At G y (VInt k i)) (h0 : 0 ≤ i) (h1 : i.toNat < l.length) :
    Quiet P n e G S ⟨d, .indexAddr t x y, ty, pos, af, g⟩ (Is (elAddr v (i.toNat * Enc.size α))) :=
  Q_of_run fun a w hh => by
    obtain ⟨gb, cap, cur, rfl, h2, h3, h4, h5, h6⟩ := RowR.some (hh.res _ hm.mem) (by omega)
    have hx' : a.eval x = .slice (some ⟨gb, 0, none⟩) l.length cap := hx.rep hh
    have hy' : a.eval y = .int k i := hy.rep hh
    have hlt : i < (l.length : Int) := by omega
    refine ⟨_, w, ?_, Ext.refl _ _, rfl⟩
    simp only [execOp, hx', hy', Instr.indexAt, asIntOf, Sem.run_bind, Sem.run_pure, Result.andThen_ok, run_underlying ht, run_sizeOf hs, addr_add, if_pos (And.intro h0 hlt), elAddr, Nat.zero_add]
theorem Q_loadR {l : List α} {i : Nat} {el : TypeId} {v : Value} (hx : At G x (Is (elAddr v (i * Enc.size α)))) (hm : Repl S (RowR el v l) [] S') (hT : GoT P t α) (h1 : i < l.length) :
    Quiet P n e G S ⟨d, .load t x, ty, pos, af, g⟩ (V l[i]) :=
  Q_of_run fun a w hh => by
    obtain ⟨gb, cap, cur, rfl, h2, h3, h4, h5, h6⟩ := RowR.some (hh.res _ hm.mem) (by omega)
    have e1 : a.eval x = .pointer (some ⟨gb, i * Enc.size α, none⟩) := hx.rep hh
    have hc := cpl_get h6 i h1
    have hr : Reads w gb 0 cur.toList := reads_box (by simpa using h2)
    have hr2 := hr.sub (i * Enc.size α) (Enc.size α)
    rw [Nat.zero_add] at hr2
    have e2 : ((cur.toList.take (l.length * Enc.size α)).drop (i * Enc.size α)).take (Enc.size α) = (cur.toList.drop (i * Enc.size α)).take (Enc.size α) := by
      rw [List.drop_take, List.take_take]
      congr 1
      have : (i + 1) * Enc.size α ≤ l.length * Enc.size α := Nat.mul_le_mul_right _ h1
      rw [Nat.add_mul] at this
      omega
    rw [e2] at hc
    refine ⟨_, w, ?_, Ext.refl _ _, Enc.toV hc⟩
    simp [execOp, e1, Instr.loadAt, Instr.sureAddr, run_loadVar_cells hT hc hr2]
theorem J_storeR {l l' : List α} {i : Nat} {el : TypeId} {v : Value} {u : α} (hx : At G x (Is (elAddr v (i * Enc.size α)))) (hy : At G y (V u)) (h1 : i < l.length) (hl : l.set i u = l') (hm : Repl S (RowR el v l) [RowR el v l'] S')
    (hT : (P.info? t).map (·.size) = some (Enc.size α))
    (h : J n e G S' (wpList P ops Q rest)) : J n e G S (wpList P ops Q (⟨none, .store t x y, ty, pos, af, none⟩ :: rest)) := by
  subst hl
  intro a w hh
  refine wpList_plain rfl fun K hK => ?_
  obtain ⟨gb, cap, cur, rfl, h2, h3, h4, h5, h6⟩ := RowR.some (hh.res _ hm.mem) (by omega)
  have e1 : a.eval x = .pointer (some ⟨gb, i * Enc.size α, none⟩) := hx.rep hh
  obtain ⟨m, hm1, hm2⟩ := Enc.ofV (hy.rep hh)
  have hle : (i + 1) * Enc.size α ≤ l.length * Enc.size α := Nat.mul_le_mul_right _ h1
  have hle2 : l.length * Enc.size α ≤ cap * Enc.size α := Nat.mul_le_mul_right _ h3
  rw [Nat.add_mul, Nat.one_mul] at hle
  have hb : w.heap[gb]? = some (.cells cur.toList.toArray el (0, 0)) := by simpa using h2
  have hcl : cur.toList.length = cap * Enc.size α := by simpa using h5
  have hml := Enc.len hm1
  have hrun := run_storeVar_cells (P := P) hT hm1 hb (off := i * Enc.size α) (by omega)
  unfold Oper.wp
  have hex : (execOp a.eval ⟨none, .store t x y, ty, pos, af, none⟩).run P w = .ok .skip (w.setRow gb (cur.toList.take (i * Enc.size α) ++ m ++ cur.toList.drop (i * Enc.size α + Enc.size α)).toArray) := by
    simp only [execOp, e1, hm2, Instr.storeAt, Instr.sureAddr, Sem.run_bind, Sem.run_pure, Result.andThen_ok, hrun]
  rw [hex]
  refine hK _ _ (h _ _ ?_)
  refine hh.repl hm (by simpa [RowR, Value.ownBlock] using Ext.setRow w gb _) (by intro c hc; exact .inl (by simpa [RowR, Value.ownBlock] using hc)) (by simp [RowR, Value.ownBlock]) ?_
  intro q hq
  simp at hq; subst hq
  have hTT : TT e S' = TT e S := hm.feet_tt rfl
  rw [hTT]
  have hk : Keeps w (TT e S) (w.setRow gb (cur.toList.take (i * Enc.size α) ++ m ++ cur.toList.drop (i * Enc.size α + Enc.size α)).toArray) (TT e S) :=
    (Ext.setRow w gb _).keeps (by intro c hc; simp at hc; subst hc; exact .inr (List.mem_flatMap.2 ⟨_, hm.mem, by simp [RowR, Value.ownBlock]⟩)) (fun _ _ h => h)
  have hset := cpl_set h6 hm1 i h1
  refine ⟨(cur.toList.take (l.length * Enc.size α)).take (i * Enc.size α) ++ m ++ (cur.toList.take (l.length * Enc.size α)).drop (i * Enc.size α + Enc.size α), ⟨?_, .inr ⟨gb, cap, _, by rw [List.length_set], Nat.zero_le _, setRow_heap w gb _ _ el _ h2, by rw [List.length_set]; exact h3, h4, ?_, ?_⟩⟩, (cpl _).mono hset hk⟩
  · simp only [List.length_append, List.length_take, List.length_drop, hml, List.length_set, hcl]; omega
  · simp only [List.size_toArray, List.length_append, List.length_take, List.length_drop, hml, hcl]; omega
  · have hla : (cur.toList.take (i * Enc.size α) ++ m).length = i * Enc.size α + Enc.size α := by rw [List.length_append, List.length_take, hml, hcl]; omega
    rw [List.length_set, List.take_append, hla, List.take_of_length_le (by rw [hla]; exact hle), List.take_take, Nat.min_eq_left (by omega), List.drop_take]
end
end Go.Sep
namespace Go.Sep
open Go
open Enc (V)
section
variable {P : Program} {n : Nat} {e : Env P} {G : Ctx} {S S' : List Res} {Q : Exit → Act → World → Prop}
variable {α : Type} [Enc α] {d : Option Tmp} {dd : Nat} {t tn : TypeId} {x y hi : Operand} {ty : TypeId} {pos : String} {af : Array Edge} {g : Option (Nat × Bool)} {ops : Array Oper} {rest : List Oper}
theorem sl_of_row {el : TypeId} {v : Value} {l : List α} {a : Act} {w : World} (hm : Repl S (RowR el v l) [] S') (hh : Holds n e G S a w) : (Sl l).rep w (TT e S') v := by
  obtain ⟨xs, h2, h3⟩ := hh.res _ hm.mem
  have hT : ∀ c, TT e S' c → TT e S c := by
    obtain ⟨A, B, e1, e2⟩ := hm
    rw [e1, e2]; intro c hc
    rcases hc with hc | hc
    · exact .inl hc
    · refine .inr ?_; simp at hc ⊢; rcases hc with hc | hc <;> simp [hc]
  have hnb : ∀ b, v.ownBlock = some b → ¬ TT e S' b := by
    intro b hb hc
    have hbf : b ∈ (RowR el v l).foot := by simp [RowR, hb]
    have hnd := hh.nodup
    have hap := hh.apart b (List.mem_flatMap.2 ⟨_, hm.mem, hbf⟩)
    obtain ⟨A, B, e1, e2⟩ := hm
    rw [e1] at hnd
    rcases hc with hc | hc
    · exact hap hc
    · rw [e2] at hc
      simp at hc
      rw [feet_append, feet_cons] at hnd
      obtain ⟨_, hnd2, hnd3⟩ := List.nodup_append.1 hnd
      rcases hc with hc | hc
      · exact hnd3 b hc b (List.mem_append_left _ hbf) rfl
      · obtain ⟨_, _, hnd4⟩ := List.nodup_append.1 hnd2
        exact hnd4 b hbf b hc rfl
  exact ownsRow_sl h2 ((cpl l).mono h3 (fun c hc ht => ⟨fun h => ht (hT c h), rfl⟩)) hnb
theorem Q_invokeRow {T : TypeId} {name : String} {f : FuncId} {o : Operand} {xs : List Operand} {Xs : List VP} {el : TypeId} {v r : Value} {l : List α} {ats : Array TypeId} (hM : Finds P T name f) (hc : FnP P f (Sl l :: Xs) (Is r))
    (ho : At G o (VIface T (Is v))) (ha : Ats G xs Xs) (hm : Repl S (RowR el v l) [] S') : Quiet P n e G S ⟨d, .call ⟨.invoke o name, xs.toArray, ats⟩, ty, pos, af, g⟩ (Is r) := by
  intro a w hh K Q hK
  unfold Oper.wp
  obtain ⟨rv, e1, e2⟩ := ho.rep hh
  have e2' : rv = v := e2
  have hex : (execOp a.eval ⟨d, .call ⟨.invoke o name, xs.toArray, ats⟩, ty, pos, af, g⟩).run P w = .ok (.enter f (rv :: xs.map a.eval).toArray) w := by
    simp only [execOp, resolve, invoke, Sem.run_bind, Sem.run_pure, Result.andThen_ok, e1]
    simp [callMethod, Sem.run_bind, hM rv w, run_callFunc hc.1]
    exact List.take_of_length_le (by simp)
  rw [hex, Oper.upon_enter]
  have hlo := hh.lose hm
  refine (hc.2 w (TT e S') (rv :: xs.map a.eval) hlo.T_lt (by simp) (by simp) (by simp) hlo.glob ⟨e2' ▸ sl_of_row hm hh, ats_args ha hlo⟩).mono ?_
  rintro ex w' ⟨i, u, _, rfl, hx, _, _, hR, _⟩
  exact hK u w' (by simpa using hx) hR
theorem J_nat {sl : Nat} {k : IntKind} {z : Int} (m : Nat) {K : Act → World → Prop} (hf : find G sl = some (VInt k z)) (he : z = (m : Nat)) (h : J n e ((sl, VInt k (m : Nat)) :: G) S K) : J n e G S K := by
  subst he
  refine J_conv (fun t X hX => ?_) h
  rw [find_cons] at hX
  by_cases ht : sl = t
  · subst ht; rw [if_pos rfl] at hX; exact ⟨_, hf, fun w T v hv => (Option.some.inj hX) ▸ hv⟩
  · rw [if_neg ht] at hX; exact ⟨_, hX, fun w T v hv => hv⟩
end
end Go.Sep
namespace Go.Sep
open Go
open Enc (V)
theorem zc_list (z : Array Value) (k : Nat) : (Builtin.zeroCells z (k + 1)).toList = z.toList ++ (Builtin.zeroCells z k).toList := by
  unfold Builtin.zeroCells
  apply List.ext_getElem
  · simp [Nat.add_mul]; omega
  · intro i h1 h2
    simp only [Array.toList_map, Array.toList_range, List.getElem_map, List.getElem_range]
    by_cases hi : i < z.size
    · rw [List.getElem_append_left (by simpa using hi), Nat.mod_eq_of_lt hi]; simp [hi]
    · rw [List.getElem_append_right (by simpa using hi)]
      simp only [List.getElem_map, List.getElem_range, Array.length_toList]
      rw [Nat.mod_eq_sub_mod (by omega)]
theorem cpl_zeros {α : Type} [Enc α] {z : α} {v : Value} {w : World} {T : Nat → Prop} (hz : (V z).rep w T v) : ∀ k, (cpl (List.replicate k z)).rep w T (Builtin.zeroCells v.cells k).toList
  | 0 => by show _ = _; simp [Builtin.zeroCells]
  | k + 1 => by
    obtain ⟨l, hl, rfl⟩ := Enc.ofV hz
    rw [zc_list, List.replicate_succ]
    exact ⟨l, _, by rw [cells_ofCells hl], hl, cpl_zeros hz k⟩
def tailV (v : Value) (sz k : Nat) : Value := match v with
  | .slice (some a) n c => .slice (some ⟨a.block, k * sz, none⟩) (n - k) (c - k)
  | _ => undef
section
variable {P : Program} {n : Nat} {e : Env P} {G : Ctx} {S S' : List Res} {Q : Exit → Act → World → Prop}
variable {α : Type} [Enc α] {d : Option Tmp} {dd : Nat} {t tn : TypeId} {x y hi : Operand} {ty : TypeId} {pos : String} {af : Array Edge} {g : Option (Nat × Bool)} {ops : Array Oper} {rest : List Oper}
theorem Q_tailR {l : List α} {k : IntKind} {i : Int} {el : TypeId} {v : Value} (ht : P.underlying t = some (.slice el)) (hs : (P.info? el).map (·.size) = some (Enc.size α))
    (hx : At G x (Is v)) (hm : Repl S (RowR el v l) [] S') (hy : At G y (VInt k i)) (h0 : 0 ≤ i) (h1 : i.toNat < l.length) :
    Quiet P n e G S ⟨d, .slice t x (some y) none none, ty, pos, af, g⟩ (Is (tailV v (Enc.size α) i.toNat)) :=
  Q_of_run fun a w hh => by
    obtain ⟨gb, cap, cur, rfl, h2, h3, h4, h5, h6⟩ := RowR.some (hh.res _ hm.mem) (by omega)
    have hx' : a.eval x = .slice (some ⟨gb, 0, none⟩) l.length cap := hx.rep hh
    have hy' : a.eval y = .int k i := hy.rep hh
    have hb0 : ∀ (cd : BoundsCode), (Instr.sliceBound (.int k i) l.length cd).run P w = .ok i.toNat w := fun cd => run_sliceBound w k i _ cd h0 (by omega)
    have hne : ¬ cap = i.toNat := by omega
    refine ⟨_, w, ?_, Ext.refl _ _, rfl⟩
    simp [execOp, hx', hy', Instr.sliceAt, Instr.slice, Instr.sliceBounds, run_underlying ht, run_sizeOf hs, hb0, addr_add, tailV, hne]
theorem Q_lenT {l : List α} {sz k : Nat} {el el' : TypeId} {v : Value} {ats : Array TypeId} (ht : P.underlying t = some (.slice el')) (hats : ats[0]? = some t) (hx : At G x (Is (tailV v sz k))) (hm : Repl S (RowR el v l) [] S') (h1 : k < l.length) :
    Quiet P n e G S ⟨d, .call ⟨.builtin .len, #[x], ats⟩, ty, pos, af, g⟩ (VInt .i64 ((l.length - k : Nat) : Int)) :=
  Q_of_run fun act w hh => by
    obtain ⟨gb, cap, cur, rfl, h2, h3, h4, h5, h6⟩ := RowR.some (hh.res _ hm.mem) (by omega)
    have e1 : act.eval x = .slice (some ⟨gb, k * sz, none⟩) (l.length - k) (cap - k) := hx.rep hh
    exact ⟨_, w, by simp [execOp, resolve, invoke, builtin, Builtin.len_, hats, e1, run_underlying ht, goInt], Ext.refl _ _, rfl⟩
theorem Q_idxAddrT {l : List α} {k : IntKind} {i : Int} {m : Nat} {el : TypeId} {v : Value} (ht : P.underlying t = some (.slice el)) (hs : (P.info? el).map (·.size) = some (Enc.size α))
    (hx : At G x (Is (tailV v (Enc.size α) m))) (hm : Repl S (RowR el v l) [] S') (hy : At G y (VInt k i)) (h0 : 0 ≤ i) (h1 : m + i.toNat < l.length) :
    Quiet P n e G S ⟨d, .indexAddr t x y, ty, pos, af, g⟩ (Is (elAddr v ((m + i.toNat) * Enc.size α))) :=
  Q_of_run fun a w hh => by
    obtain ⟨gb, cap, cur, rfl, h2, h3, h4, h5, h6⟩ := RowR.some (hh.res _ hm.mem) (by omega)
    have hx' : a.eval x = .slice (some ⟨gb, m * Enc.size α, none⟩) (l.length - m) (cap - m) := hx.rep hh
    have hy' : a.eval y = .int k i := hy.rep hh
    have hlt : i < ((l.length - m : Nat) : Int) := by omega
    refine ⟨_, w, ?_, Ext.refl _ _, rfl⟩
    simp only [execOp, hx', hy', Instr.indexAt, asIntOf, Sem.run_bind, Sem.run_pure, Result.andThen_ok, run_underlying ht, run_sizeOf hs, addr_add, if_pos (And.intro h0 hlt), elAddr, Nat.add_mul]
theorem J_clearT {l : List α} {z : α} {m : Nat} {el : TypeId} {v : Value} {SS : List α → List Res} (ht : P.underlying t = some (.slice el)) (hz : GoZ P el z) (hx : At G x (Is (tailV v (Enc.size α) m))) (hm : ∀ l', Repl S (RowR el v l) [RowR el v l'] (SS l')) (h1 : m < l.length)
    (h : ∀ l', l'.length = l.length → l'.take m = l.take m → J n e G (SS l') (wpList P ops Q rest)) : J n e G S (wpList P ops Q (⟨none, .call ⟨.builtin .clear, #[x], #[t]⟩, ty, pos, af, none⟩ :: rest)) := by
  intro a w hh
  refine wpList_plain rfl fun K hK => ?_
  obtain ⟨gb, cap, cur, rfl, h2, h3, h4, h5, h6⟩ := RowR.some (hh.res _ (hm []).mem) (by omega)
  have e1 : a.eval x = .slice (some ⟨gb, m * Enc.size α, none⟩) (l.length - m) (cap - m) := hx.rep hh
  obtain ⟨zv, hzi, hzv⟩ := hz
  have hrep := cpl_zeros (hzv w (TT e S)) (l.length - m)
  have hzl := cpl_len hrep
  rw [List.length_replicate] at hzl
  have hsum : m * Enc.size α + (l.length - m) * Enc.size α = l.length * Enc.size α := by rw [← Nat.add_mul]; congr 1; omega
  have hle2 : l.length * Enc.size α ≤ cap * Enc.size α := Nat.mul_le_mul_right _ h3
  have hcl : cur.toList.length = cap * Enc.size α := by simpa using h5
  have hst := run_storeCells_at P gb (m * Enc.size α) el (Builtin.zeroCells zv.cells (l.length - m)).toList 0 cur w h2 (by rw [hzl, h5]; omega) (cpl_one hrep)
  simp only [Nat.add_zero] at hst
  rw [hzl, hsum] at hst
  have hlm : 0 < l.length - m := by omega
  obtain ⟨j, hj⟩ : ∃ j, l.length - m = j + 1 := ⟨l.length - m - 1, by omega⟩
  have hrun : (Builtin.clear_ #[t] ty #[.slice (some ⟨gb, m * Enc.size α, none⟩) (l.length - m) (cap - m)]).run P w = .ok (.tuple #[]) (w.setRow gb (cur.toList.take (m * Enc.size α) ++ (Builtin.zeroCells zv.cells (l.length - m)).toList ++ cur.toList.drop (l.length * Enc.size α)).toArray) := by
    rw [hj] at hst ⊢
    simp [Builtin.clear_, run_underlying ht, run_zero hzi, hst]
  unfold Oper.wp
  have hex : (execOp a.eval ⟨none, .call ⟨.builtin .clear, #[x], #[t]⟩, ty, pos, af, none⟩).run P w = .ok (.value (.tuple #[])) (w.setRow gb (cur.toList.take (m * Enc.size α) ++ (Builtin.zeroCells zv.cells (l.length - m)).toList ++ cur.toList.drop (l.length * Enc.size α)).toArray) := by
    simp only [execOp, resolve, invoke, builtin, Sem.run_bind, Sem.run_pure, Result.andThen_ok, List.map_toArray, List.map_cons, List.map_nil, e1, hrun]
  rw [hex]
  have hlen' : (l.take m ++ List.replicate (l.length - m) z).length = l.length := by simp; omega
  refine hK _ _ (h (l.take m ++ List.replicate (l.length - m) z) hlen' (by rw [List.take_append_of_le_length (by simp; omega), List.take_take, Nat.min_self]) _ _ ?_)
  refine Holds.repl (a := a) hh (hm _) (by simpa [RowR, Value.ownBlock] using Ext.setRow w gb _) (by intro c hc; exact .inl (by simpa [RowR, Value.ownBlock] using hc)) (by simp [RowR, Value.ownBlock]) ?_
  intro q hq
  simp at hq; subst hq
  have hTT : TT e (SS (l.take m ++ List.replicate (l.length - m) z)) = TT e S := (hm _).feet_tt rfl
  rw [hTT]
  have hk : Keeps w (TT e S) (w.setRow gb (cur.toList.take (m * Enc.size α) ++ (Builtin.zeroCells zv.cells (l.length - m)).toList ++ cur.toList.drop (l.length * Enc.size α)).toArray) (TT e S) :=
    (Ext.setRow w gb _).keeps (by intro c hc; simp at hc; subst hc; exact .inr (List.mem_flatMap.2 ⟨_, (hm []).mem, by simp [RowR, Value.ownBlock]⟩)) (fun _ _ h => h)
  have hcp := cpl_append (cpl_take h6 m (by omega)).1 hrep
  rw [List.take_take, Nat.min_eq_left (by omega)] at hcp
  refine ⟨cur.toList.take (m * Enc.size α) ++ (Builtin.zeroCells zv.cells (l.length - m)).toList, ⟨?_, .inr ⟨gb, cap, _, by rw [hlen'], Nat.zero_le _, setRow_heap w gb _ _ el _ h2, by rw [hlen']; exact h3, h4, ?_, ?_⟩⟩, (cpl _).mono hcp hk⟩
  · simp only [List.length_append, List.length_take, hzl, hlen', hcl]; omega
  · simp only [List.size_toArray, List.length_append, List.length_take, List.length_drop, hzl, hcl]; omega
  · have hla : (cur.toList.take (m * Enc.size α) ++ (Builtin.zeroCells zv.cells (l.length - m)).toList).length = l.length * Enc.size α := by rw [List.length_append, List.length_take, hzl, hcl]; omega
    rw [hlen', List.take_append, hla, Nat.sub_self, List.take_zero, List.append_nil, ← hla, List.take_length]
end
end Go.Sep
