/- Lemmas for the statement below: steps of the walk. Conditions: none of their own. -/
import Derived.Test.YtejlcnbhaagdjaaGreatDoorZ00
import Derived.Lib.AppendStr
import Derived.Test.YtejlcnbhaagdjaaGreatDoorProg
import Derived.Lib.Bytealg
set_option linter.unusedSimpArgs false
set_option linter.unusedVariables false
set_option linter.unusedSectionVars false
namespace Go.Sep
open Go
open Enc (V)
theorem count_set {listed : Array Bool} {i m : Nat} (hil : i < listed.size) (him : i < m) (hnl : listed.getD i false = false) :
    ((List.range m).filter (fun j => (listed.setIfInBounds i true).getD j false)).length = ((List.range m).filter (fun j => listed.getD j false)).length + 1 := by
  have hperm : ∀ (r : List Nat), r.Nodup → i ∈ r → (r.filter (fun j => (listed.setIfInBounds i true).getD j false)).length = (r.filter (fun j => listed.getD j false)).length + 1 := by
    intro r
    induction r with
    | nil => intro _ hm; cases hm
    | cons c r ihr =>
      intro hndr hm
      obtain ⟨hc1, hc2⟩ := List.nodup_cons.1 hndr
      by_cases hci : c = i
      · subst hci
        have e1 : (listed.setIfInBounds c true).getD c false = true := by simp [hil]
        have e2 : r.filter (fun j => (listed.setIfInBounds c true).getD j false) = r.filter (fun j => listed.getD j false) :=
          List.filter_congr (fun j hj => getD_set_ne false (fun he => hc1 (he ▸ hj)))
        rw [List.filter_cons_of_pos (p := fun j => (listed.setIfInBounds c true).getD j false) e1, List.filter_cons_of_neg (p := fun j => listed.getD j false) (by rw [hnl]; simp), e2, List.length_cons]
      · have hmr : i ∈ r := by
          rcases List.mem_cons.1 hm with h | h
          · exact absurd h.symm hci
          · exact h
        have e1 : (listed.setIfInBounds i true).getD c false = listed.getD c false := getD_set_ne false (fun he => hci he.symm)
        have := ihr hc2 hmr
        cases hlc : listed.getD c false with
        | true => rw [List.filter_cons_of_pos (p := fun j => (listed.setIfInBounds i true).getD j false) (by rw [e1]; exact hlc), List.filter_cons_of_pos (p := fun j => listed.getD j false) hlc, List.length_cons, List.length_cons, this]
        | false => rw [List.filter_cons_of_neg (p := fun j => (listed.setIfInBounds i true).getD j false) (by rw [e1, hlc]; simp), List.filter_cons_of_neg (p := fun j => listed.getD j false) (by rw [hlc]; simp), this]
  exact hperm _ List.nodup_range (List.mem_range.2 him)
section
variable {P : Program} {n : Nat} {e : Env P} {G : Ctx} {S S' : List Res} {Q : Exit → Act → World → Prop}
theorem J_drawE {id : Nat} {l : List Oper} {S1 : List Res} (hm : P.follows .mixedOrders = true) (s : Nat) (ds : List Nat) (Xs : List VP)
    (hsl : Nat.blt s l.length = true) (hds : (l.take s).map (·.dst) = ds.map some) (hdn : nodupB ds = true) (hdl : ds.all (Nat.blt · n) = true) (hback : backOk l = true) (hsrc : (List.range (s + 1)).all (srcOk l ds) = true) (htail : tailOk l (s + 1) = true) (hdE : ∀ o, l[s]? = some o → o.dst = none ∧ o.guard = none)
    (hq : QAll P n e G S l ds Xs 0 (l.take s) Xs) (hTT : TT e S1 = TT e S)
    (fl : List Nat) (hfl : ((List.range s).all fun i => ((bits l).getD s 0).testBit i || fl.contains i) = true) (hq1 : ∀ i, i ∈ fl → ∀ o X, l[i]? = some o → Xs[i]? = some X → QStep P n e (lctx G ds Xs l i) S1 l.toArray o X)
    (hE : ∀ o, l[s]? = some o → ∀ a w, Holds n e (lctx G ds Xs l s) S a w → ∀ (K : Act → World → Prop) (Q : Exit → Act → World → Prop), (∀ w', Holds n e [] S1 a w' → Keeps w (TT e S) w' (TT e S) → K a w') → o.wp P a w K Q)
    (h : J n e (ds.zip Xs ++ G) S1 (wpList P l.toArray Q (l.drop (s + 1)))) : J n e G S ((Code.region id l.toArray true).wp P Q) := by
  intro a w hh
  have hsl' : s < l.length := by simpa [Nat.blt_eq] using hsl
  obtain ⟨hlen, hget⟩ := hq.get
  have hdlen : ds.length = s := by
    have := congrArg List.length hds
    simp at this; omega
  have hXlen : Xs.length = s := by rw [← hlen]; simp; omega
  have hdst : ∀ i o, i < s → l[i]? = some o → o.dst = some (ds.getD i 0) := by
    intro i o hi ho
    have h1 : ((l.take s).map (·.dst))[i]? = (ds.map some)[i]? := by rw [hds]
    rw [List.getElem?_map, List.getElem?_take, if_pos hi, ho, List.getElem?_map] at h1
    have hid : i < ds.length := by omega
    rw [List.getElem?_eq_getElem hid] at h1
    simp at h1
    rw [h1, List.getD_eq_getElem?_getD, List.getElem?_eq_getElem hid]; rfl
  have hdlt : ∀ i, i < s → ds.getD i 0 < n := by
    intro i hi
    have hid : i < ds.length := by omega
    have := List.all_eq_true.1 hdl ds[i] (List.getElem_mem hid)
    rw [List.getD_eq_getElem?_getD, List.getElem?_eq_getElem hid]
    simpa [Nat.blt_eq] using this
  have hnd := nodupB_spec hdn
  have hdne : ∀ i j, i < s → j < s → i ≠ j → ds.getD i 0 ≠ ds.getD j 0 := by
    intro i j hi hj hij heq
    have hid : i < ds.length := by omega
    have hjd : j < ds.length := by omega
    rw [List.getD_eq_getElem?_getD, List.getD_eq_getElem?_getD, List.getElem?_eq_getElem hid, List.getElem?_eq_getElem hjd] at heq
    have heq' : ds[i] = ds[j] := by simpa using heq
    rcases Nat.lt_or_gt_of_ne hij with h | h
    · exact List.pairwise_iff_getElem.1 hnd i j hid hjd h heq'
    · exact List.pairwise_iff_getElem.1 hnd j i hjd hid h heq'.symm
  have hlt : ∀ i o, l[i]? = some o → ∀ k, k ∈ direct o → k < i := by
    intro i o ho k hk
    have h1 := List.all_eq_true.1 hback i (List.mem_range.2 (List.getElem?_eq_some_iff.1 ho).1)
    simp only [ho] at h1
    simpa using List.all_eq_true.1 h1 k hk
  -- the tail
  have tail : ∀ (fuel k : Nat) (listed : Array Bool) (a : Act) (w : World), s + 1 ≤ k → k ≤ l.length → fuel = l.length - k → listed.size = l.length → (∀ j, j < l.length → (listed.getD j false = true ↔ j < k)) →
      wpList P l.toArray Q (l.drop k) a w → wpAny P .any l.toArray Q fuel listed a w := by
    intro fuel
    induction fuel with
    | zero =>
      intro k listed a w hsk hkl hf hls hlist hw
      have hke : k = l.length := by omega
      subst hke
      rw [List.drop_length] at hw
      refine wpAny_done ?_ hw 0
      apply List.eq_nil_iff_forall_not_mem.2
      intro j hj
      obtain ⟨h1, oj, ho, _⟩ := mem_ready.1 hj
      have hjl : j < l.length := by
        have := (Array.getElem?_eq_some_iff.1 ho).1; simpa using this
      have h2 := (hlist j hjl).2 hjl
      have h3 : listed.getD j false = false := listed_get (by rw [hls]; exact hjl) h1
      rw [h3] at h2; cases h2
    | succ fuel ih =>
      intro k listed a w hsk hkl hf hls hlist hw
      have hk : k < l.length := by omega
      have hok : l[k]? = some l[k] := List.getElem?_eq_getElem hk
      have hko : l.toArray[k]? = some l[k] := by simp [hok]
      have hready : ∀ i, i ∈ Region.ready .any l.toArray listed → i = k := by
        intro i hi
        obtain ⟨h1, oi, ho, hall⟩ := mem_ready.1 hi
        have hil : i < l.length := by
          have := (Array.getElem?_eq_some_iff.1 ho).1; simpa using this
        have h3 : listed.getD i false = false := listed_get (by rw [hls]; exact hil) h1
        have hnk : ¬ i < k := fun hik => by rw [(hlist i hil).2 hik] at h3; cases h3
        by_cases hne : i = k
        · exact hne
        · exfalso
          have hoi : l[i]? = some oi := by simpa using ho
          have ht := List.all_eq_true.1 htail i (List.mem_range.2 hil)
          simp only [Bool.or_eq_true, decide_eq_true_eq] at ht
          rcases ht with ht | ht
          · omega
          · have hb := List.all_eq_true.1 ht k (List.mem_range.2 (by omega))
            have hdown : Down l (fun j => j < k) := by
              intro j o' ho' hj k' hk'
              exact Nat.lt_trans (hlt j o' ho' k' hk') hj
            have hdi : ∀ k', k' ∈ direct oi → k' < k := by
              intro k' hk'
              unfold direct at hk'
              obtain ⟨ed, he1, he2⟩ := List.mem_map.1 hk'
              rw [List.mem_filter] at he1
              have h4 := hall ed (by simpa using he1.1) he1.2
              rw [he2] at h4
              have hkl' : k' < l.length := Nat.lt_trans (hlt i oi hoi k' (by unfold direct; exact hk')) hil
              exact (hlist k' hkl').1 h4
            have := bits_down hdown hlt i oi hoi hdi k hb
            omega
      refine ⟨fun h0 => ?_, fun i hi => ?_⟩
      · exfalso
        have : k ∈ Region.ready .any l.toArray listed := by
          refine mem_ready.2 ⟨?_, l[k], hko, ?_⟩
          · have h5 : ¬ listed.getD k false = true := fun h => by have := (hlist k hk).1 h; omega
            have : k < listed.size := by rw [hls]; exact hk
            simp [this] at h5 ⊢; exact h5
          · intro ed he hb
            have hkd : ed.on ∈ direct l[k] := by unfold direct; exact List.mem_map.2 ⟨ed, List.mem_filter.2 ⟨by simpa using he, hb⟩, rfl⟩
            have h6 := hlt k l[k] hok ed.on hkd
            exact (hlist ed.on (by omega)).2 h6
        rw [h0] at this; cases this
      · obtain rfl := hready i hi
        have hdrop : l.drop i = l[i] :: l.drop (i + 1) := List.drop_eq_getElem_cons hk
        rw [hdrop] at hw
        unfold wpOp
        simp only [hko]
        have hset : ∀ a w, wpList P l.toArray Q (l.drop (i + 1)) a w → wpAny P .any l.toArray Q fuel (listed.setIfInBounds i true) a w := by
          intro a w hw
          refine ih (i + 1) _ a w (by omega) (by omega) (by omega) (by simpa using hls) (fun j hj => ?_) hw
          by_cases hji : i = j
          · subst hji
            have : i < listed.size := by rw [hls]; exact hk
            simp [this]
          · rw [getD_set_ne false hji, hlist j hj]; omega
        unfold wpList at hw
        split
        · rename_i hwn
          rw [if_pos hwn] at hw
          exact hw.imp (Oper.wp_mono hset) (fun x => x)
        · rename_i hwn
          rw [if_neg hwn] at hw
          exact hset _ _ hw
  have hT : ∀ c : Bool, TT e (if c = true then S1 else S) = TT e S := by intro c; cases c; rfl; exact hTT
  have hcl : ∀ (listed : Array Bool), Down l (fun j => listed.getD j false = true) → ∀ i o, l[i]? = some o → (∀ k, k ∈ direct o → listed.getD k false = true) → ∀ j, ((bits l).getD i 0).testBit j = true → listed.getD j false = true :=
    fun listed hdown i o ho hd j hb => bits_down hdown hlt i o ho hd j hb
  have main : ∀ (fuel : Nat) (listed : Array Bool) (a : Act) (w : World), listed.size = l.length → (∀ j, s < j → listed.getD j false = false) → Down l (fun j => listed.getD j false = true) →
      l.length = fuel + ((List.range (s + 1)).filter (fun j => listed.getD j false)).length → Inv n e G (if listed.getD s false = true then S1 else S) ds Xs (fun j => j < s ∧ listed.getD j false = true) a w → wpAny P .any l.toArray Q fuel listed a w := by
    intro fuel
    induction fuel with
    | zero =>
      intro listed a w hls hhi hdown hcount hinv
      have hle : ((List.range (s + 1)).filter (fun j => listed.getD j false)).length ≤ s + 1 := by
        have := List.length_filter_le (fun j => listed.getD j false) (List.range (s + 1))
        simpa using this
      have hs : s + 1 = l.length := by omega
      have hall : ∀ j, j < s + 1 → listed.getD j false = true := by
        intro j hj
        have h1 : ((List.range (s + 1)).filter (fun j => listed.getD j false)).length = (List.range (s + 1)).length := by simp at hcount ⊢; omega
        have h2 := List.length_filter_eq_length_iff.1 h1
        exact h2 j (List.mem_range.2 hj)
      have hS1 : listed.getD s false = true := hall s (by omega)
      rw [if_pos hS1] at hinv
      refine tail 0 (s + 1) listed a w (Nat.le_refl _) (by omega) (by omega) hls (fun j hj => ⟨fun _ => by omega, fun hj => hall j hj⟩) ?_
      refine h a w ⟨hinv.base.size, hinv.base.defers, fun t X hX => ?_, hinv.base.res, hinv.base.nodup, hinv.base.own, hinv.base.ext, hinv.base.glob⟩
      rcases find_zip (by omega) hX with ⟨j, h1, h2, h3⟩ | ⟨h1, h2⟩
      · rw [← h2]; exact hinv.done j X ⟨by omega, hall j (by omega)⟩ h3
      · exact hinv.old t X h1 (fun j _ hj => h2 j hj)
    | succ fuel ih =>
      intro listed a w hls hhi hdown hcount hinv
      by_cases hall : ∀ j, j < s + 1 → listed.getD j false = true
      · have hfl : (List.range (s + 1)).filter (fun j => listed.getD j false) = List.range (s + 1) := List.filter_eq_self.2 (fun j hj => hall j (List.mem_range.1 hj))
        rw [hfl, List.length_range] at hcount
        have hS1 : listed.getD s false = true := hall s (by omega)
        rw [if_pos hS1] at hinv
        refine tail (fuel + 1) (s + 1) listed a w (Nat.le_refl _) (by omega) (by omega) hls (fun j hj => ⟨fun h1 => ?_, fun hj => hall j hj⟩) ?_
        · by_cases hjs : j < s + 1
          · exact hjs
          · rw [hhi j (by omega)] at h1; cases h1
        · refine h a w ⟨hinv.base.size, hinv.base.defers, fun t X hX => ?_, hinv.base.res, hinv.base.nodup, hinv.base.own, hinv.base.ext, hinv.base.glob⟩
          rcases find_zip (by omega) hX with ⟨j, h1, h2, h3⟩ | ⟨h1, h2⟩
          · rw [← h2]; exact hinv.done j X ⟨by omega, hall j (by omega)⟩ h3
          · exact hinv.old t X h1 (fun j _ hj => h2 j hj)
      · have hready : ∀ i, i ∈ Region.ready .any l.toArray listed → i ≤ s ∧ listed.getD i false = false ∧ ∃ oi, l[i]? = some oi ∧ ∀ k, k ∈ direct oi → listed.getD k false = true := by
          intro i hi
          obtain ⟨h1, oi, ho, hal⟩ := mem_ready.1 hi
          have hoi : l[i]? = some oi := by simpa using ho
          have hil : i < l.length := (List.getElem?_eq_some_iff.1 hoi).1
          have h3 : listed.getD i false = false := listed_get (by rw [hls]; exact hil) h1
          have hdi : ∀ k', k' ∈ direct oi → listed.getD k' false = true := by
            intro k' hk'
            unfold direct at hk'
            obtain ⟨ed, he1, he2⟩ := List.mem_map.1 hk'
            rw [List.mem_filter] at he1
            rw [← he2]; exact hal ed (by simpa using he1.1) he1.2
          refine ⟨?_, h3, oi, hoi, hdi⟩
          by_cases his : i ≤ s
          · exact his
          · exfalso
            apply hall
            intro j hj
            have ht := List.all_eq_true.1 htail i (List.mem_range.2 hil)
            simp only [Bool.or_eq_true, decide_eq_true_eq] at ht
            rcases ht with ht | ht
            · omega
            · exact bits_down hdown hlt i oi hoi hdi j (List.all_eq_true.1 ht j (List.mem_range.2 (by omega)))
        refine ⟨fun h0 => ?_, fun i hi => ?_⟩
        · exfalso
          obtain ⟨j, hj⟩ := Classical.not_forall.1 hall
          have hex : ∃ j, j < s + 1 ∧ listed.getD j false = false := ⟨j, by
            obtain ⟨h1, h2⟩ := Classical.not_imp.1 hj
            exact ⟨h1, by simpa using h2⟩⟩
          have hmin : ∃ j, (j < s + 1 ∧ listed.getD j false = false) ∧ ∀ k, k < j → listed.getD k false = true := by
            obtain ⟨j, hj1, hj2⟩ := hex
            induction j using Nat.strongRecOn with
            | _ j ihj =>
              by_cases hx : ∃ k, k < j ∧ listed.getD k false = false
              · obtain ⟨k, hk1, hk2⟩ := hx
                exact ihj k hk1 (by omega) hk2
              · exact ⟨j, ⟨hj1, hj2⟩, fun k hk => by
                  cases hv : listed.getD k false with
                  | true => rfl
                  | false => exact absurd ⟨k, hk, hv⟩ hx⟩
          obtain ⟨j, ⟨hj1, hj2⟩, hj3⟩ := hmin
          have hjl : j < l.length := by omega
          have : j ∈ Region.ready .any l.toArray listed := by
            refine mem_ready.2 ⟨?_, l[j], by simp [List.getElem?_eq_getElem hjl], ?_⟩
            · have : j < listed.size := by rw [hls]; exact hjl
              simp [this] at hj2 ⊢; exact hj2
            · intro ed he hb
              have hkd : ed.on ∈ direct l[j] := by unfold direct; exact List.mem_map.2 ⟨ed, List.mem_filter.2 ⟨by simpa using he, hb⟩, rfl⟩
              exact hj3 ed.on (hlt j l[j] (List.getElem?_eq_getElem hjl) ed.on hkd)
          rw [h0] at this; cases this
        · obtain ⟨his, hnl, oi, hoi, hdi⟩ := hready i hi
          have hko : l.toArray[i]? = some oi := by simpa using hoi
          have hil : i < listed.size := by rw [hls]; exact (List.getElem?_eq_some_iff.1 hoi).1
          have hclos := bits_down hdown hlt i oi hoi hdi
          have hdn' : Down l (fun j => (listed.setIfInBounds i true).getD j false = true) := by
            intro j o' ho' hj k hk
            by_cases hij : i = j
            · subst hij
              rw [hoi] at ho'; obtain rfl := Option.some.inj ho'
              have hki := hlt i oi hoi k hk
              show (listed.setIfInBounds i true).getD k false = true
              rw [getD_set_ne false (by omega)]; exact hdi k hk
            · have hj' : listed.getD j false = true := by
                have : (listed.setIfInBounds i true).getD j false = true := hj
                rwa [getD_set_ne false hij] at this
              exact getD_set_true (hdown j o' ho' hj' k hk)
          have hhi' : ∀ j, s < j → (listed.setIfInBounds i true).getD j false = false := fun j hj => by rw [getD_set_ne false (by omega)]; exact hhi j hj
          have hct' : l.length = fuel + ((List.range (s + 1)).filter (fun j => (listed.setIfInBounds i true).getD j false)).length := by rw [count_set hil (by omega) hnl]; omega
          have hloc : Holds n e (lctx G ds Xs l i) (if listed.getD s false = true then S1 else S) a w := by
            refine ⟨hinv.base.size, hinv.base.defers, fun t Y hY => ?_, hinv.base.res, hinv.base.nodup, hinv.base.own, hinv.base.ext, hinv.base.glob⟩
            simp only [lctx, hoi] at hY
            obtain ⟨htm, hsrcY⟩ := lookCtx_find _ _ _ _ _ _ _ hY
            cases hso : srcOf ds ((bits l).getD i 0) t with
            | some j =>
              rw [hso] at hsrcY
              simp only at hsrcY
              have hp := List.find?_some hso
              simp only [Bool.and_eq_true, beq_iff_eq] at hp
              have hjr := List.mem_of_find?_eq_some hso
              rw [← hp.1]
              exact hinv.done j Y ⟨by rw [List.mem_range] at hjr; omega, hclos j hp.2⟩ hsrcY
            | none =>
              rw [hso] at hsrcY
              simp only at hsrcY
              refine hinv.old t Y hsrcY (fun j hj hjl hjt => ?_)
              have h8 := List.all_eq_true.1 hsrc i (List.mem_range.2 (by omega))
              simp only [srcOk, hoi] at h8
              have h9 := List.all_eq_true.1 h8 t htm
              rw [hso] at h9
              simp only [Option.isSome_none, Bool.false_or] at h9
              have h10 := List.all_eq_true.1 h9 j (List.mem_range.2 hjl)
              simp only [hjt, beq_self_eq_true, Bool.not_true, Bool.false_or] at h10
              have hjl' : j < l.length := by omega
              have hoj : l[j]? = some l[j] := List.getElem?_eq_getElem hjl'
              have := bits_down hdown hlt j l[j] hoj (fun k hk => hdown j l[j] hoj hj.2 k hk) i h10
              rw [hnl] at this; cases this
          by_cases hE0 : i = s
          · -- the effect
            subst hE0
            have hno := hdE oi hoi
            rw [hnl, if_neg (by simp)] at hloc hinv
            unfold wpOp
            simp only [hko]
            have hwn : Region.wanted oi (yielded l.toArray a.tmps) = true := by simp [Region.wanted, hno.2]
            rw [if_pos hwn]
            refine .inl (hE oi hoi a w hloc _ _ fun w' hw' hk => ?_)
            have hSi : (listed.setIfInBounds i true).getD i false = true := getD_set_self hil
            refine ih _ _ _ (by simpa using hls) hhi' hdn' hct' ?_
            rw [if_pos hSi]
            refine ⟨hw', fun j Y hj hY => ?_, fun t Y hY hn => ?_⟩
            · have hj2 : listed.getD j false = true := by have := hj.2; rwa [getD_set_ne false (by omega)] at this
              rw [hTT]; exact Y.mono (hinv.done j Y ⟨hj.1, hj2⟩ hY) hk
            · rw [hTT]; exact Y.mono (hinv.old t Y hY (fun j hj hjl => hn j ⟨hj.1, getD_set_true hj.2⟩ hjl)) hk
          · have his' : i < s := by omega
            have hSi : (listed.setIfInBounds i true).getD s false = listed.getD s false := getD_set_ne false (by omega)
            obtain ⟨X, hX, hqs0⟩ := hget i oi (by rw [List.getElem?_take, if_pos his']; exact hoi)
            rw [Nat.zero_add] at hqs0
            have hqs : QStep P n e (lctx G ds Xs l i) (if listed.getD s false = true then S1 else S) l.toArray oi X := by
              cases hls1 : listed.getD s false with
              | false => rw [if_neg (by simp)]; exact hqs0
              | true =>
                rw [if_pos rfl]
                refine hq1 i ?_ oi X hoi hX
                have hf := List.all_eq_true.1 hfl i (List.mem_range.2 his')
                cases hb : ((bits l).getD s 0).testBit i with
                | false => rw [hb] at hf; simpa using hf
                | true =>
                  have hos : l[s]? = some l[s] := List.getElem?_eq_getElem hsl'
                  have := bits_down hdown hlt s l[s] hos (fun k hk => hdown s l[s] hos hls1 k hk) i hb
                  rw [hnl] at this; cases this
            have hrun := hqs a w hloc (wpAny P .any l.toArray Q fuel (listed.setIfInBounds i true)) Q (fun v w' hx hv => by
              rw [hdst i oi his' hoi]
              have hdi' := hdlt i his'
              have hbase := (hinv.base.quiet hx hv hdi')
              refine ih _ _ _ (by simpa using hls) hhi' hdn' hct' ?_
              rw [hSi]
              have hk : Keeps w (TT e (if listed.getD s false = true then S1 else S)) w' (TT e (if listed.getD s false = true then S1 else S)) := hx.keeps (by simp) (fun _ _ h => h)
              refine ⟨⟨hbase.size, hbase.defers, fun t X h => (by simp [find] at h), hbase.res, hbase.nodup, hbase.own, hbase.ext, hbase.glob⟩, ?_, ?_⟩
              · intro j Y hj hY
                by_cases hij : i = j
                · subst hij
                  rw [hX] at hY; obtain rfl := Option.some.inj hY
                  rw [put_getD_same _ _ _ (by rw [hinv.base.size]; exact hdi')]
                  exact hv
                · have hj2 : listed.getD j false = true := by have := hj.2; rwa [getD_set_ne false hij] at this
                  rw [put_getD_ne _ _ _ _ (hdne i j his' hj.1 hij)]
                  exact Y.mono (hinv.done j Y ⟨hj.1, hj2⟩ hY) hk
              · intro t Y hY hn
                have hit : ds.getD i 0 ≠ t := hn i ⟨his', getD_set_self hil⟩ (by omega)
                rw [put_getD_ne _ _ _ _ hit]
                exact Y.mono (hinv.old t Y hY (fun j hj hjl => hn j ⟨hj.1, getD_set_true hj.2⟩ hjl)) hk)
            unfold wpOp
            simp only [hko]
            split
            · rename_i hwn; rw [if_pos hwn] at hrun; exact .inl hrun
            · rename_i hwn; rw [if_neg hwn] at hrun; exact hrun
  refine wp_region_any hm ?_
  have hh' := hh.drew
  have hl0 : ∀ j, (Array.replicate l.toArray.size false).getD j false = false := by intro j; simp [Array.getD]
  refine main _ _ _ _ (by simp) (fun j _ => hl0 j) (fun i o _ h => absurd h (by simp only [hl0]; simp)) ?_ ?_
  · have : (List.range (s + 1)).filter (fun j => (Array.replicate l.toArray.size false).getD j false) = [] := List.filter_eq_nil_iff.2 (fun j _ => by rw [hl0]; simp)
    rw [this]; simp
  · rw [hl0, if_neg (by simp)]
    exact ⟨⟨hh'.size, hh'.defers, fun t X h => (by simp [find] at h), hh'.res, hh'.nodup, hh'.own, hh'.ext, hh'.glob⟩, fun j X h => absurd h.2 (by simp only [hl0]; simp), fun t X hX _ => hh'.slots t X hX⟩
theorem J_storeA {α : Type} [Enc α] {t : TypeId} {x y : Operand} {ty : TypeId} {pos : String} {af : Array Edge} {ops : Array Oper} {rest : List Oper} {l l' : List α} {i : Nat} {el : TypeId} {v : Value} {u : α} (hx : At G x (Is (elAddr v (i * Enc.size α)))) (hy : At G y (V u)) (hl : l.set i u = l') (hm : Repl S (RowR el v l) [RowR el v l'] S') (h1 : i < l.length)
    (hT : (P.info? t).map (·.size) = some (Enc.size α)) (h : J n e G S' (wpList P ops Q rest)) : J n e G S (wpList P ops Q (⟨none, .store t x y, ty, pos, af, none⟩ :: rest)) := J_storeR hx hy h1 hl hm hT h
theorem TT_row {α : Type} [Enc α] {el : TypeId} {v : Value} (l l' : List α) : TT e [RowR el v l'] = TT e [RowR el v l] := rfl
theorem J_sub' {a : Act} {w : World} (h : Holds n e G S a w) : Holds n e [] S a w := ⟨h.size, h.defers, fun t X hX => (by simp [find] at hX), h.res, h.nodup, h.own, h.ext, h.glob⟩
theorem E_storeR {α : Type} [Enc α] {t : TypeId} {x y : Operand} {ty : TypeId} {pos : String} {af : Array Edge} {l l' : List α} {i : Nat} {el : TypeId} {v : Value} {u : α} (hx : At G x (Is (elAddr v (i * Enc.size α)))) (hy : At G y (V u)) (h1 : i < l.length) (hl : l.set i u = l') (hm : Repl S (RowR el v l) [RowR el v l'] S')
    (hT : (P.info? t).map (·.size) = some (Enc.size α)) :
    ∀ a w, Holds n e G S a w → ∀ (K : Act → World → Prop) (Q : Exit → Act → World → Prop), (∀ w', Holds n e [] S' a w' → Keeps w (TT e S) w' (TT e S) → K a w') → (⟨none, .store t x y, ty, pos, af, none⟩ : Oper).wp P a w K Q := by
  subst hl
  intro a w hh K Q hK
  obtain ⟨gb, cap, cur, rfl, h2, h3, h4, h5, h6⟩ := RowR.some (hh.res _ hm.mem) (by omega)
  have e1 : a.eval x = .pointer (some ⟨gb, i * Enc.size α, none⟩) := hx.rep hh
  obtain ⟨m, hm1, hm2⟩ := Enc.ofV (hy.rep hh)
  have hle : (i + 1) * Enc.size α ≤ l.length * Enc.size α := Nat.mul_le_mul_right _ h1
  have hle2 : l.length * Enc.size α ≤ cap * Enc.size α := Nat.mul_le_mul_right _ h3
  rw [Nat.add_mul, Nat.one_mul] at hle
  have hb : w.heap[gb]? = some (.cells cur.toList.toArray el (0, 0)) := by simpa using h2
  have hcl : cur.toList.length = cap * Enc.size α := by simpa using h5
  have hml := Enc.len hm1
  have hrun := run_storeVar_cells (P := P) hT hm1 hb (off := i * Enc.size α) (by omega)
  unfold Oper.wp
  have hex : (execOp a.eval ⟨none, .store t x y, ty, pos, af, none⟩).run P w = .ok .skip (w.setRow gb (cur.toList.take (i * Enc.size α) ++ m ++ cur.toList.drop (i * Enc.size α + Enc.size α)).toArray) := by
    simp only [execOp, e1, hm2, Instr.storeAt, Instr.sureAddr, Sem.run_bind, Sem.run_pure, Result.andThen_ok, hrun]
  rw [hex]
  have hk0 : Keeps w (TT e S) (w.setRow gb (cur.toList.take (i * Enc.size α) ++ m ++ cur.toList.drop (i * Enc.size α + Enc.size α)).toArray) (TT e S) :=
    (Ext.setRow w gb _).keeps (by intro c hc; simp at hc; subst hc; exact .inr (List.mem_flatMap.2 ⟨_, hm.mem, by simp [RowR, Value.ownBlock]⟩)) (fun _ _ h => h)
  refine hK _ (J_sub' (G := G) ?_) hk0
  refine Holds.repl (a := a) hh hm (by simpa [RowR, Value.ownBlock] using Ext.setRow w gb _) (by intro c hc; exact .inl (by simpa [RowR, Value.ownBlock] using hc)) (by simp [RowR, Value.ownBlock]) ?_
  intro q hq
  simp at hq; subst hq
  have hTT : TT e S' = TT e S := hm.feet_tt rfl
  rw [hTT]
  have hk : Keeps w (TT e S) (w.setRow gb (cur.toList.take (i * Enc.size α) ++ m ++ cur.toList.drop (i * Enc.size α + Enc.size α)).toArray) (TT e S) :=
    (Ext.setRow w gb _).keeps (by intro c hc; simp at hc; subst hc; exact .inr (List.mem_flatMap.2 ⟨_, hm.mem, by simp [RowR, Value.ownBlock]⟩)) (fun _ _ h => h)
  have hset := cpl_set h6 hm1 i h1
  refine ⟨(cur.toList.take (l.length * Enc.size α)).take (i * Enc.size α) ++ m ++ (cur.toList.take (l.length * Enc.size α)).drop (i * Enc.size α + Enc.size α), ⟨?_, .inr ⟨gb, cap, _, by rw [List.length_set], Nat.zero_le _, setRow_heap w gb _ _ el _ h2, by rw [List.length_set]; exact h3, h4, ?_, ?_⟩⟩, (cpl _).mono hset hk⟩
  · simp only [List.length_append, List.length_take, List.length_drop, hml, List.length_set, hcl]; omega
  · simp only [List.size_toArray, List.length_append, List.length_take, List.length_drop, hml, hcl]; omega
  · have hla : (cur.toList.take (i * Enc.size α) ++ m).length = i * Enc.size α + Enc.size α := by rw [List.length_append, List.length_take, hml, hcl]; omega
    rw [List.length_set, List.take_append, hla, List.take_of_length_le (by rw [hla]; exact hle), List.take_take, Nat.min_eq_left (by omega), List.drop_take]
end
end Go.Sep
namespace Go.Sep
open Go
open Enc (V)
section
variable {P : Program} {n : Nat} {e : Env P} {G : Ctx} {S S' : List Res} {Q : Exit → Act → World → Prop}
def QAllB (P : Program) (n : Nat) (e : Env P) (G : Ctx) (S : List Res) (l : List Oper) (ds : List Nat) (Xs : List VP) : Nat → List Oper → List VP → List Bool → Prop
  | _, [], [], [] => True
  | i, o :: os, X :: Ys, false :: bs => QStep P n e (lctx G ds Xs l i) S l.toArray o X ∧ QAllB P n e G S l ds Xs (i + 1) os Ys bs
  | i, _ :: os, _ :: Ys, true :: bs => QAllB P n e G S l ds Xs (i + 1) os Ys bs
  | _, _, _, _ => False
theorem QAllB.get {l : List Oper} {ds : List Nat} {Xs : List VP} : ∀ {os : List Oper} {Ys : List VP} {bs : List Bool} {i : Nat}, QAllB P n e G S l ds Xs i os Ys bs →
    os.length = Ys.length ∧ ∀ k o X, os[k]? = some o → Ys[k]? = some X → bs[k]? = some false → QStep P n e (lctx G ds Xs l (i + k)) S l.toArray o X := by
  intro os
  induction os with
  | nil => intro Ys bs i h; cases Ys with | nil => exact ⟨rfl, fun k o X h => by simp at h⟩ | cons _ _ => exact h.elim
  | cons o os ih =>
    intro Ys bs i h
    cases Ys with
    | nil => exact h.elim
    | cons X Ys =>
      cases bs with
      | nil => exact h.elim
      | cons b bs =>
        have hh : QAllB P n e G S l ds Xs (i + 1) os Ys bs ∧ (b = false → QStep P n e (lctx G ds Xs l i) S l.toArray o X) := by
          cases b with
          | false => exact ⟨h.2, fun _ => h.1⟩
          | true => exact ⟨h, fun hb => by cases hb⟩
        obtain ⟨h1, h2⟩ := ih hh.1
        refine ⟨by simp [h1], fun k o' X' hk hX hb => ?_⟩
        cases k with
        | zero => simp at hk hX hb; subst hk hX; exact hh.2 hb
        | succ k => rw [show i + (k + 1) = i + 1 + k from by omega]; exact h2 k o' X' (by simpa using hk) (by simpa using hX) (by simpa using hb)
theorem J_drawF {id : Nat} {l : List Oper} {S1 : List Res} {XE : VP} (hm : P.follows .mixedOrders = true) (m s : Nat) (ds : List Nat) (Xs : List VP)
    (hsl : Nat.ble m l.length = true) (hsm : Nat.blt s m = true) (hds : (l.take m).map (·.dst) = ds.map some) (hdn : nodupB ds = true) (hdl : ds.all (Nat.blt · n) = true) (hback : backOk l = true) (hsrc : (List.range m).all (srcOk l ds) = true) (htail : tailOk l m = true) (hdE : ∀ o, l[s]? = some o → o.guard = none) (hXE : Xs[s]? = some XE)
    (sk0 sk1 : List Bool) (hk0 : sk0 = (List.range m).map fun i => Nat.beq i s || ((bits l).getD i 0).testBit s) (hk1 : sk1 = (List.range m).map fun i => Nat.beq i s || ((bits l).getD s 0).testBit i)
    (hq : QAllB P n e G S l ds Xs 0 (l.take m) Xs sk0) (hTT : TT e S1 = TT e S) (hq1 : QAllB P n e G S1 l ds Xs 0 (l.take m) Xs sk1)
    (hE : ∀ o, l[s]? = some o → ∀ a w, Holds n e (lctx G ds Xs l s) S a w → ∀ (K : Act → World → Prop) (Q : Exit → Act → World → Prop), (∀ v w', Holds n e [] S1 a w' → XE.rep w' (TT e S1) v → Keeps w (TT e S) w' (TT e S) → K (a.put o.dst v) w') → o.wp P a w K Q)
    (h : J n e (ds.zip Xs ++ G) S1 (wpList P l.toArray Q (l.drop m))) : J n e G S ((Code.region id l.toArray true).wp P Q) := by
  intro a w hh
  have hsl' : m ≤ l.length := by simpa [Nat.ble_eq] using hsl
  have hsm' : s < m := by simpa [Nat.blt_eq] using hsm
  obtain ⟨hlen, hget⟩ := hq.get
  obtain ⟨_, hget1⟩ := hq1.get
  have hdlen : ds.length = m := by
    have := congrArg List.length hds
    simp at this; omega
  have hXlen : Xs.length = m := by rw [← hlen]; simp; omega
  have hdst : ∀ i o, i < m → l[i]? = some o → o.dst = some (ds.getD i 0) := by
    intro i o hi ho
    have h1 : ((l.take m).map (·.dst))[i]? = (ds.map some)[i]? := by rw [hds]
    rw [List.getElem?_map, List.getElem?_take, if_pos hi, ho, List.getElem?_map] at h1
    have hid : i < ds.length := by omega
    rw [List.getElem?_eq_getElem hid] at h1
    simp at h1
    rw [h1, List.getD_eq_getElem?_getD, List.getElem?_eq_getElem hid]; rfl
  have hdlt : ∀ i, i < m → ds.getD i 0 < n := by
    intro i hi
    have hid : i < ds.length := by omega
    have := List.all_eq_true.1 hdl ds[i] (List.getElem_mem hid)
    rw [List.getD_eq_getElem?_getD, List.getElem?_eq_getElem hid]
    simpa [Nat.blt_eq] using this
  have hnd := nodupB_spec hdn
  have hdne : ∀ i j, i < m → j < m → i ≠ j → ds.getD i 0 ≠ ds.getD j 0 := by
    intro i j hi hj hij heq
    have hid : i < ds.length := by omega
    have hjd : j < ds.length := by omega
    rw [List.getD_eq_getElem?_getD, List.getD_eq_getElem?_getD, List.getElem?_eq_getElem hid, List.getElem?_eq_getElem hjd] at heq
    have heq' : ds[i] = ds[j] := by simpa using heq
    rcases Nat.lt_or_gt_of_ne hij with h | h
    · exact List.pairwise_iff_getElem.1 hnd i j hid hjd h heq'
    · exact List.pairwise_iff_getElem.1 hnd j i hjd hid h heq'.symm
  have hlt : ∀ i o, l[i]? = some o → ∀ k, k ∈ direct o → k < i := by
    intro i o ho k hk
    have h1 := List.all_eq_true.1 hback i (List.mem_range.2 (List.getElem?_eq_some_iff.1 ho).1)
    simp only [ho] at h1
    simpa using List.all_eq_true.1 h1 k hk
  -- the tail
  have tail : ∀ (fuel k : Nat) (listed : Array Bool) (a : Act) (w : World), m ≤ k → k ≤ l.length → fuel = l.length - k → listed.size = l.length → (∀ j, j < l.length → (listed.getD j false = true ↔ j < k)) →
      wpList P l.toArray Q (l.drop k) a w → wpAny P .any l.toArray Q fuel listed a w := by
    intro fuel
    induction fuel with
    | zero =>
      intro k listed a w hsk hkl hf hls hlist hw
      have hke : k = l.length := by omega
      subst hke
      rw [List.drop_length] at hw
      refine wpAny_done ?_ hw 0
      apply List.eq_nil_iff_forall_not_mem.2
      intro j hj
      obtain ⟨h1, oj, ho, _⟩ := mem_ready.1 hj
      have hjl : j < l.length := by
        have := (Array.getElem?_eq_some_iff.1 ho).1; simpa using this
      have h2 := (hlist j hjl).2 hjl
      have h3 : listed.getD j false = false := listed_get (by rw [hls]; exact hjl) h1
      rw [h3] at h2; cases h2
    | succ fuel ih =>
      intro k listed a w hsk hkl hf hls hlist hw
      have hk : k < l.length := by omega
      have hok : l[k]? = some l[k] := List.getElem?_eq_getElem hk
      have hko : l.toArray[k]? = some l[k] := by simp [hok]
      have hready : ∀ i, i ∈ Region.ready .any l.toArray listed → i = k := by
        intro i hi
        obtain ⟨h1, oi, ho, hall⟩ := mem_ready.1 hi
        have hil : i < l.length := by
          have := (Array.getElem?_eq_some_iff.1 ho).1; simpa using this
        have h3 : listed.getD i false = false := listed_get (by rw [hls]; exact hil) h1
        have hnk : ¬ i < k := fun hik => by rw [(hlist i hil).2 hik] at h3; cases h3
        by_cases hne : i = k
        · exact hne
        · exfalso
          have hoi : l[i]? = some oi := by simpa using ho
          have ht := List.all_eq_true.1 htail i (List.mem_range.2 hil)
          simp only [Bool.or_eq_true, decide_eq_true_eq] at ht
          rcases ht with ht | ht
          · omega
          · have hb := List.all_eq_true.1 ht k (List.mem_range.2 (by omega))
            have hdown : Down l (fun j => j < k) := by
              intro j o' ho' hj k' hk'
              exact Nat.lt_trans (hlt j o' ho' k' hk') hj
            have hdi : ∀ k', k' ∈ direct oi → k' < k := by
              intro k' hk'
              unfold direct at hk'
              obtain ⟨ed, he1, he2⟩ := List.mem_map.1 hk'
              rw [List.mem_filter] at he1
              have h4 := hall ed (by simpa using he1.1) he1.2
              rw [he2] at h4
              have hkl' : k' < l.length := Nat.lt_trans (hlt i oi hoi k' (by unfold direct; exact hk')) hil
              exact (hlist k' hkl').1 h4
            have := bits_down hdown hlt i oi hoi hdi k hb
            omega
      refine ⟨fun h0 => ?_, fun i hi => ?_⟩
      · exfalso
        have : k ∈ Region.ready .any l.toArray listed := by
          refine mem_ready.2 ⟨?_, l[k], hko, ?_⟩
          · have h5 : ¬ listed.getD k false = true := fun h => by have := (hlist k hk).1 h; omega
            have : k < listed.size := by rw [hls]; exact hk
            simp [this] at h5 ⊢; exact h5
          · intro ed he hb
            have hkd : ed.on ∈ direct l[k] := by unfold direct; exact List.mem_map.2 ⟨ed, List.mem_filter.2 ⟨by simpa using he, hb⟩, rfl⟩
            have h6 := hlt k l[k] hok ed.on hkd
            exact (hlist ed.on (by omega)).2 h6
        rw [h0] at this; cases this
      · obtain rfl := hready i hi
        have hdrop : l.drop i = l[i] :: l.drop (i + 1) := List.drop_eq_getElem_cons hk
        rw [hdrop] at hw
        unfold wpOp
        simp only [hko]
        have hset : ∀ a w, wpList P l.toArray Q (l.drop (i + 1)) a w → wpAny P .any l.toArray Q fuel (listed.setIfInBounds i true) a w := by
          intro a w hw
          refine ih (i + 1) _ a w (by omega) (by omega) (by omega) (by simpa using hls) (fun j hj => ?_) hw
          by_cases hji : i = j
          · subst hji
            have : i < listed.size := by rw [hls]; exact hk
            simp [this]
          · rw [getD_set_ne false hji, hlist j hj]; omega
        unfold wpList at hw
        split
        · rename_i hwn
          rw [if_pos hwn] at hw
          exact hw.imp (Oper.wp_mono hset) (fun x => x)
        · rename_i hwn
          rw [if_neg hwn] at hw
          exact hset _ _ hw
  have hT : ∀ c : Bool, TT e (if c = true then S1 else S) = TT e S := by intro c; cases c; rfl; exact hTT
  have hcl : ∀ (listed : Array Bool), Down l (fun j => listed.getD j false = true) → ∀ i o, l[i]? = some o → (∀ k, k ∈ direct o → listed.getD k false = true) → ∀ j, ((bits l).getD i 0).testBit j = true → listed.getD j false = true :=
    fun listed hdown i o ho hd j hb => bits_down hdown hlt i o ho hd j hb
  have main : ∀ (fuel : Nat) (listed : Array Bool) (a : Act) (w : World), listed.size = l.length → (∀ j, m ≤ j → listed.getD j false = false) → Down l (fun j => listed.getD j false = true) →
      l.length = fuel + ((List.range m).filter (fun j => listed.getD j false)).length → Inv n e G (if listed.getD s false = true then S1 else S) ds Xs (fun j => j < m ∧ listed.getD j false = true) a w → wpAny P .any l.toArray Q fuel listed a w := by
    intro fuel
    induction fuel with
    | zero =>
      intro listed a w hls hhi hdown hcount hinv
      have hle : ((List.range m).filter (fun j => listed.getD j false)).length ≤ m := by
        have := List.length_filter_le (fun j => listed.getD j false) (List.range m)
        simpa using this
      have hs : m = l.length := by omega
      have hall : ∀ j, j < m → listed.getD j false = true := by
        intro j hj
        have h1 : ((List.range m).filter (fun j => listed.getD j false)).length = (List.range m).length := by simp at hcount ⊢; omega
        have h2 := List.length_filter_eq_length_iff.1 h1
        exact h2 j (List.mem_range.2 hj)
      have hS1 : listed.getD s false = true := hall s (by omega)
      rw [if_pos hS1] at hinv
      refine tail 0 m listed a w (Nat.le_refl _) (by omega) (by omega) hls (fun j hj => ⟨fun _ => by omega, fun hj => hall j hj⟩) ?_
      refine h a w ⟨hinv.base.size, hinv.base.defers, fun t X hX => ?_, hinv.base.res, hinv.base.nodup, hinv.base.own, hinv.base.ext, hinv.base.glob⟩
      rcases find_zip (by omega) hX with ⟨j, h1, h2, h3⟩ | ⟨h1, h2⟩
      · rw [← h2]; exact hinv.done j X ⟨by omega, hall j (by omega)⟩ h3
      · exact hinv.old t X h1 (fun j _ hj => h2 j hj)
    | succ fuel ih =>
      intro listed a w hls hhi hdown hcount hinv
      by_cases hall : ∀ j, j < m → listed.getD j false = true
      · have hfl : (List.range m).filter (fun j => listed.getD j false) = List.range m := List.filter_eq_self.2 (fun j hj => hall j (List.mem_range.1 hj))
        rw [hfl, List.length_range] at hcount
        have hS1 : listed.getD s false = true := hall s (by omega)
        rw [if_pos hS1] at hinv
        refine tail (fuel + 1) m listed a w (Nat.le_refl _) (by omega) (by omega) hls (fun j hj => ⟨fun h1 => ?_, fun hj => hall j hj⟩) ?_
        · by_cases hjs : j < m
          · exact hjs
          · rw [hhi j (by omega)] at h1; cases h1
        · refine h a w ⟨hinv.base.size, hinv.base.defers, fun t X hX => ?_, hinv.base.res, hinv.base.nodup, hinv.base.own, hinv.base.ext, hinv.base.glob⟩
          rcases find_zip (by omega) hX with ⟨j, h1, h2, h3⟩ | ⟨h1, h2⟩
          · rw [← h2]; exact hinv.done j X ⟨by omega, hall j (by omega)⟩ h3
          · exact hinv.old t X h1 (fun j _ hj => h2 j hj)
      · have hready : ∀ i, i ∈ Region.ready .any l.toArray listed → i < m ∧ listed.getD i false = false ∧ ∃ oi, l[i]? = some oi ∧ ∀ k, k ∈ direct oi → listed.getD k false = true := by
          intro i hi
          obtain ⟨h1, oi, ho, hal⟩ := mem_ready.1 hi
          have hoi : l[i]? = some oi := by simpa using ho
          have hil : i < l.length := (List.getElem?_eq_some_iff.1 hoi).1
          have h3 : listed.getD i false = false := listed_get (by rw [hls]; exact hil) h1
          have hdi : ∀ k', k' ∈ direct oi → listed.getD k' false = true := by
            intro k' hk'
            unfold direct at hk'
            obtain ⟨ed, he1, he2⟩ := List.mem_map.1 hk'
            rw [List.mem_filter] at he1
            rw [← he2]; exact hal ed (by simpa using he1.1) he1.2
          refine ⟨?_, h3, oi, hoi, hdi⟩
          by_cases his : i < m
          · exact his
          · exfalso
            apply hall
            intro j hj
            have ht := List.all_eq_true.1 htail i (List.mem_range.2 hil)
            simp only [Bool.or_eq_true, decide_eq_true_eq] at ht
            rcases ht with ht | ht
            · omega
            · exact bits_down hdown hlt i oi hoi hdi j (List.all_eq_true.1 ht j (List.mem_range.2 (by omega)))
        refine ⟨fun h0 => ?_, fun i hi => ?_⟩
        · exfalso
          obtain ⟨j, hj⟩ := Classical.not_forall.1 hall
          have hex : ∃ j, j < m ∧ listed.getD j false = false := ⟨j, by
            obtain ⟨h1, h2⟩ := Classical.not_imp.1 hj
            exact ⟨h1, by simpa using h2⟩⟩
          have hmin : ∃ j, (j < m ∧ listed.getD j false = false) ∧ ∀ k, k < j → listed.getD k false = true := by
            obtain ⟨j, hj1, hj2⟩ := hex
            induction j using Nat.strongRecOn with
            | _ j ihj =>
              by_cases hx : ∃ k, k < j ∧ listed.getD k false = false
              · obtain ⟨k, hk1, hk2⟩ := hx
                exact ihj k hk1 (by omega) hk2
              · exact ⟨j, ⟨hj1, hj2⟩, fun k hk => by
                  cases hv : listed.getD k false with
                  | true => rfl
                  | false => exact absurd ⟨k, hk, hv⟩ hx⟩
          obtain ⟨j, ⟨hj1, hj2⟩, hj3⟩ := hmin
          have hjl : j < l.length := by omega
          have : j ∈ Region.ready .any l.toArray listed := by
            refine mem_ready.2 ⟨?_, l[j], by simp [List.getElem?_eq_getElem hjl], ?_⟩
            · have : j < listed.size := by rw [hls]; exact hjl
              simp [this] at hj2 ⊢; exact hj2
            · intro ed he hb
              have hkd : ed.on ∈ direct l[j] := by unfold direct; exact List.mem_map.2 ⟨ed, List.mem_filter.2 ⟨by simpa using he, hb⟩, rfl⟩
              exact hj3 ed.on (hlt j l[j] (List.getElem?_eq_getElem hjl) ed.on hkd)
          rw [h0] at this; cases this
        · obtain ⟨his, hnl, oi, hoi, hdi⟩ := hready i hi
          have hko : l.toArray[i]? = some oi := by simpa using hoi
          have hil : i < listed.size := by rw [hls]; exact (List.getElem?_eq_some_iff.1 hoi).1
          have hclos := bits_down hdown hlt i oi hoi hdi
          have hdn' : Down l (fun j => (listed.setIfInBounds i true).getD j false = true) := by
            intro j o' ho' hj k hk
            by_cases hij : i = j
            · subst hij
              rw [hoi] at ho'; obtain rfl := Option.some.inj ho'
              have hki := hlt i oi hoi k hk
              show (listed.setIfInBounds i true).getD k false = true
              rw [getD_set_ne false (by omega)]; exact hdi k hk
            · have hj' : listed.getD j false = true := by
                have : (listed.setIfInBounds i true).getD j false = true := hj
                rwa [getD_set_ne false hij] at this
              exact getD_set_true (hdown j o' ho' hj' k hk)
          have hhi' : ∀ j, m ≤ j → (listed.setIfInBounds i true).getD j false = false := fun j hj => by rw [getD_set_ne false (by omega)]; exact hhi j hj
          have hct' : l.length = fuel + ((List.range m).filter (fun j => (listed.setIfInBounds i true).getD j false)).length := by rw [count_set hil (by omega) hnl]; omega
          have hloc : Holds n e (lctx G ds Xs l i) (if listed.getD s false = true then S1 else S) a w := by
            refine ⟨hinv.base.size, hinv.base.defers, fun t Y hY => ?_, hinv.base.res, hinv.base.nodup, hinv.base.own, hinv.base.ext, hinv.base.glob⟩
            simp only [lctx, hoi] at hY
            obtain ⟨htm, hsrcY⟩ := lookCtx_find _ _ _ _ _ _ _ hY
            cases hso : srcOf ds ((bits l).getD i 0) t with
            | some j =>
              rw [hso] at hsrcY
              simp only at hsrcY
              have hp := List.find?_some hso
              simp only [Bool.and_eq_true, beq_iff_eq] at hp
              have hjr := List.mem_of_find?_eq_some hso
              rw [← hp.1]
              exact hinv.done j Y ⟨by rw [List.mem_range] at hjr; omega, hclos j hp.2⟩ hsrcY
            | none =>
              rw [hso] at hsrcY
              simp only at hsrcY
              refine hinv.old t Y hsrcY (fun j hj hjl hjt => ?_)
              have h8 := List.all_eq_true.1 hsrc i (List.mem_range.2 (by omega))
              simp only [srcOk, hoi] at h8
              have h9 := List.all_eq_true.1 h8 t htm
              rw [hso] at h9
              simp only [Option.isSome_none, Bool.false_or] at h9
              have h10 := List.all_eq_true.1 h9 j (List.mem_range.2 hjl)
              simp only [hjt, beq_self_eq_true, Bool.not_true, Bool.false_or] at h10
              have hjl' : j < l.length := by omega
              have hoj : l[j]? = some l[j] := List.getElem?_eq_getElem hjl'
              have := bits_down hdown hlt j l[j] hoj (fun k hk => hdown j l[j] hoj hj.2 k hk) i h10
              rw [hnl] at this; cases this
          by_cases hE0 : i = s
          · -- the effect
            subst hE0
            have hno := hdE oi hoi
            rw [hnl, if_neg (by simp)] at hloc hinv
            unfold wpOp
            simp only [hko]
            have hwn : Region.wanted oi (yielded l.toArray a.tmps) = true := by simp [Region.wanted, hno]
            rw [if_pos hwn]
            refine .inl (hE oi hoi a w hloc _ _ fun v w' hw' hv hk => ?_)
            have hSi : (listed.setIfInBounds i true).getD i false = true := getD_set_self hil
            have hdi' := hdlt i his
            refine ih _ _ _ (by simpa using hls) hhi' hdn' hct' ?_
            rw [if_pos hSi, hdst i oi his hoi]
            have hput := hw'.put (v := v) (d := ds.getD i 0) hv hdi'
            refine ⟨⟨hput.size, hput.defers, fun t X h => (by simp [find] at h), hput.res, hput.nodup, hput.own, hput.ext, hput.glob⟩, fun j Y hj hY => ?_, fun t Y hY hn => ?_⟩
            · by_cases hij : i = j
              · subst hij
                rw [hXE] at hY; obtain rfl := Option.some.inj hY
                rw [put_getD_same _ _ _ (by rw [hinv.base.size]; exact hdi')]
                exact hv
              · have hj2 : listed.getD j false = true := by have := hj.2; rwa [getD_set_ne false hij] at this
                rw [put_getD_ne _ _ _ _ (hdne i j his hj.1 hij), hTT]
                exact Y.mono (hinv.done j Y ⟨hj.1, hj2⟩ hY) hk
            · have hit : ds.getD i 0 ≠ t := hn i ⟨his, getD_set_self hil⟩ (by omega)
              rw [put_getD_ne _ _ _ _ hit, hTT]
              exact Y.mono (hinv.old t Y hY (fun j hj hjl => hn j ⟨hj.1, getD_set_true hj.2⟩ hjl)) hk
          · have his' : i < m := his
            have hSi : (listed.setIfInBounds i true).getD s false = listed.getD s false := getD_set_ne false hE0
            have hoi2 : (l.take m)[i]? = some oi := by rw [List.getElem?_take, if_pos his']; exact hoi
            have hX : Xs[i]? = some Xs[i] := List.getElem?_eq_getElem (by omega)
            generalize Xs[i] = X at hX
            have hnb : Nat.beq i s = false := by cases hb : Nat.beq i s with | false => rfl | true => exact absurd (Nat.eq_of_beq_eq_true hb) hE0
            have hqs : QStep P n e (lctx G ds Xs l i) (if listed.getD s false = true then S1 else S) l.toArray oi X := by
              cases hls1 : listed.getD s false with
              | false =>
                rw [if_neg (by simp)]
                have := hget i oi X hoi2 hX (by
                  rw [hk0, List.getElem?_map, List.getElem?_range his']
                  simp only [Option.map_some, hnb, Bool.false_or]
                  cases hb : ((bits l).getD i 0).testBit s with
                  | false => rfl
                  | true => have := hclos s hb; rw [hls1] at this; cases this)
                rwa [Nat.zero_add] at this
              | true =>
                rw [if_pos rfl]
                have := hget1 i oi X hoi2 hX (by
                  rw [hk1, List.getElem?_map, List.getElem?_range his']
                  simp only [Option.map_some, hnb, Bool.false_or]
                  cases hb : ((bits l).getD s 0).testBit i with
                  | false => rfl
                  | true =>
                    have hos : l[s]? = some l[s] := List.getElem?_eq_getElem (by omega)
                    have := bits_down hdown hlt s l[s] hos (fun k hk => hdown s l[s] hos hls1 k hk) i hb
                    rw [hnl] at this; cases this)
                rwa [Nat.zero_add] at this
            have hrun := hqs a w hloc (wpAny P .any l.toArray Q fuel (listed.setIfInBounds i true)) Q (fun v w' hx hv => by
              rw [hdst i oi his' hoi]
              have hdi' := hdlt i his'
              have hbase := (hinv.base.quiet hx hv hdi')
              refine ih _ _ _ (by simpa using hls) hhi' hdn' hct' ?_
              rw [hSi]
              have hk : Keeps w (TT e (if listed.getD s false = true then S1 else S)) w' (TT e (if listed.getD s false = true then S1 else S)) := hx.keeps (by simp) (fun _ _ h => h)
              refine ⟨⟨hbase.size, hbase.defers, fun t X h => (by simp [find] at h), hbase.res, hbase.nodup, hbase.own, hbase.ext, hbase.glob⟩, ?_, ?_⟩
              · intro j Y hj hY
                by_cases hij : i = j
                · subst hij
                  rw [hX] at hY; obtain rfl := Option.some.inj hY
                  rw [put_getD_same _ _ _ (by rw [hinv.base.size]; exact hdi')]
                  exact hv
                · have hj2 : listed.getD j false = true := by have := hj.2; rwa [getD_set_ne false hij] at this
                  rw [put_getD_ne _ _ _ _ (hdne i j his' hj.1 hij)]
                  exact Y.mono (hinv.done j Y ⟨hj.1, hj2⟩ hY) hk
              · intro t Y hY hn
                have hit : ds.getD i 0 ≠ t := hn i ⟨his', getD_set_self hil⟩ (by omega)
                rw [put_getD_ne _ _ _ _ hit]
                exact Y.mono (hinv.old t Y hY (fun j hj hjl => hn j ⟨hj.1, getD_set_true hj.2⟩ hjl)) hk)
            unfold wpOp
            simp only [hko]
            split
            · rename_i hwn; rw [if_pos hwn] at hrun; exact .inl hrun
            · rename_i hwn; rw [if_neg hwn] at hrun; exact hrun
  refine wp_region_any hm ?_
  have hh' := hh.drew
  have hl0 : ∀ j, (Array.replicate l.toArray.size false).getD j false = false := by intro j; simp [Array.getD]
  refine main _ _ _ _ (by simp) (fun j _ => hl0 j) (fun i o _ h => absurd h (by simp only [hl0]; simp)) ?_ ?_
  · have : (List.range m).filter (fun j => (Array.replicate l.toArray.size false).getD j false) = [] := List.filter_eq_nil_iff.2 (fun j _ => by rw [hl0]; simp)
    rw [this]; simp
  · rw [hl0, if_neg (by simp)]
    exact ⟨⟨hh'.size, hh'.defers, fun t X h => (by simp [find] at h), hh'.res, hh'.nodup, hh'.own, hh'.ext, hh'.glob⟩, fun j X h => absurd h.2 (by simp only [hl0]; simp), fun t X hX _ => hh'.slots t X hX⟩
end
end Go.Sep
namespace Go.Sep
open Go
open Enc (V)
instance : GoZero Exact where
  z := ⟨.slice none 0 0, rfl⟩
  zc := [.slice none 0 0]
  ok := fun _ _ => rfl
section
variable {P : Program} {n : Nat} {e : Env P} {G : Ctx} {S S' S'' : List Res} {Q : Exit → Act → World → Prop}
variable {α β : Type} [Enc α] [Enc β] {d : Option Tmp} {dd : Nat} {t tn : TypeId} {x y hi : Operand} {ty : TypeId} {pos : String} {af : Array Edge} {g : Option (Nat × Bool)} {ops : Array Oper} {rest : List Oper}
theorem V_exact {v u : Value} {h : v.oneCell' = true} {w : World} {T : Nat → Prop} : (V (⟨v, h⟩ : Exact)).rep w T u ↔ u = v := by
  constructor
  · intro hu
    obtain ⟨l, hl, rfl⟩ := Enc.ofV hu
    have : l = [v] := hl
    subst this; rfl
  · rintro rfl
    exact Enc.toV (x := (⟨u, h⟩ : Exact)) (l := [u]) rfl
theorem At.exact {v : Value} {h : v.oneCell' = true} (hx : At G x (Is v)) : At G x (V (⟨v, h⟩ : Exact)) := hx.imp fun _ _ _ hv => V_exact.2 hv
theorem Q_exactOf {o : Oper} {z : Exact} (h : Quiet P n e G S o (V z)) : Quiet P n e G S o (Is z.v) := h.imp fun w T v hv => by
  cases z with
  | mk u hu => exact V_exact.1 hv
theorem J_one {el : TypeId} {v : Value} {l : List α} {K : Act → World → Prop} (hm : Repl S (RowR el v l) [] S') (h : v.oneCell' = true → J n e G S K) : J n e G S K := by
  intro a w hh
  obtain ⟨xs, h1, h2⟩ := hh.res _ hm.mem
  refine h ?_ a w hh
  rcases h1.2 with ⟨hv, _⟩ | ⟨g, cap, cur, hv, _⟩
  · rw [hv]; rfl
  · rw [hv]; rfl
theorem J_freezeBR {el tb : TypeId} {b : Nat} {v : Value} {l : List α} {δ : Type} [Enc δ] {x' : β} {y' : δ} {K : Act → World → Prop} (h1 : Repl S (RowR el v l) [] S') (h2 : Repl S' (BoxR tb b x') [BoxR tb b y'] S'')
    (hc : ∀ w T cs, (Enc.cp x').rep w T cs → (Sl l).rep w T v → (Enc.cp y').rep w T cs) (h : J n e G S'' K) : J n e G S K := by
  intro a w hh
  have hsl := sl_of_row h1 hh
  have hlo := hh.lose h1
  obtain ⟨cs, hb1, hb2⟩ := hlo.res _ h2.mem
  have hTT : TT e S'' = TT e S' := h2.feet_tt rfl
  refine h a w (Holds.repl (a := a) hlo h2 (Ext.refl _ _) (by simp [BoxR]) (by simp [BoxR]) ?_)
  intro q hq
  simp at hq; subst hq
  rw [hTT]
  exact ⟨cs, hb1, hc _ _ _ hb2 hsl⟩
theorem Q_buildSlice {el by_ : Nat} (hE : GoEl P el α by_) (ht : P.underlying t = some (.slice el)) {parts : Array (Nat × Operand)} {len : Nat} (os : List Operand) (zs : List α)
    (hp : parts.toList = (os.zipIdx 0).map fun x => (x.2, x.1)) (hlen : len = os.length) (ho : AtVs G os zs) (hsm : zs.length * Enc.size α ≤ 16777216) :
    Quiet P n e G S ⟨d, .buildSlice t len parts, ty, pos, af, g⟩ (Sl zs) :=
  Q_of_run fun a w hh => by
    obtain ⟨h1, h2, h3⟩ := atVs_cells ho hh
    have hrun := run_buildSlice_dense hE ht hp hlen ho hsm hh
    have hex : (execOp a.eval ⟨d, .buildSlice t len parts, ty, pos, af, g⟩).run P w =
        .ok (.value (.slice (some ⟨w.heap.size, 0, none⟩) zs.length zs.length)) (w.alloc (.cells ((os.map a.eval).flatMap fun v => v.cells.toList).toArray el)) := by
      simp only [execOp, Sem.run_bind, hrun, Result.andThen_ok, Sem.run_pure]
    have hn := heap_alloc_new w (.cells ((os.map a.eval).flatMap fun v => v.cells.toList).toArray el)
    have hp := hE.pos
    have hml : zs.length ≤ maxLen := by
      have : zs.length * 1 ≤ zs.length * Enc.size α := Nat.mul_le_mul_left _ hp
      simp only [maxLen]; omega
    refine ⟨_, _, hex, Ext.alloc _ _ _, ⟨_, zs.length, _, rfl, Nat.le_refl _, hml, (fun h => by cases h),
      (cpl zs).mono h3 ((Ext.alloc [] w _).keeps (by simp) (fun _ _ h => h)), fun _ => ⟨w.heap.size, 0, rfl, fun ht => ?_, (Array.getElem?_eq_some_iff.1 hn).1, reads_box hn⟩⟩⟩
    have := hh.T_lt _ ht; omega
theorem TT_split {Sc B S2 : List Res} (hs : Split S Sc B) (hf : feet S2 = feet Sc) : TT e (S2 ++ B) = TT e S := by
  rw [TT_perm hs]
  funext b
  simp only [TT, feet_append, hf]
theorem E_call {f : FuncId} {xs : List Operand} {Xs : List VP} {Sc B S2 : List Res} {R : VP} {ats : Array TypeId} (hc : Fn P f Xs Sc (fun _ : Unit => True) (fun _ => R) (fun _ => S2)) (ha : Ats G xs Xs) (hs : Split S Sc B) (hf : feet S2 = feet Sc) :
    ∀ a w, Holds n e G S a w → ∀ (K : Act → World → Prop) (Q : Exit → Act → World → Prop), (∀ v w', Holds n e [] (S2 ++ B) a w' → R.rep w' (TT e (S2 ++ B)) v → Keeps w (TT e S) w' (TT e S) → K (a.put (some dd) v) w') →
      (⟨some dd, .call ⟨.value (.func f), xs.toArray, ats⟩, ty, pos, af, none⟩ : Oper).wp P a w K Q := by
  intro a w hh K Q hK
  unfold Oper.wp
  have hex : (execOp a.eval ⟨some dd, .call ⟨.value (.func f), xs.toArray, ats⟩, ty, pos, af, none⟩).run P w = .ok (.enter f (xs.map a.eval).toArray) w := by
    have : execOp a.eval ⟨some dd, .call ⟨.value (.func f), xs.toArray, ats⟩, ty, pos, af, none⟩ = callFunc f (#[] ++ xs.toArray.map a.eval ++ #[]) := rfl
    rw [this, run_callFunc hc.1]
    simp
  rw [hex, Oper.upon_enter]
  have hTT := TT_split (e := e) hs hf
  have hh2 : Holds n e [(0, (⟨fun w' T' _ => Keeps w (TT e S) w' T', fun h hk b hb ht => by
    obtain ⟨a1, a2, a3⟩ := Keeps.get h hb ht
    obtain ⟨c1, c2, c3⟩ := Keeps.get hk a2 a1
    exact ⟨c1, c3.trans a3⟩⟩ : VP))] S a w := ⟨hh.size, hh.defers, fun t X hX => by
    rw [find_cons] at hX
    by_cases h0 : 0 = t
    · rw [if_pos h0] at hX; obtain rfl := Option.some.inj hX; exact (Ext.refl [] w).keeps (by simp) (fun _ _ h => h)
    · rw [if_neg h0] at hX; simp [find] at hX, hh.res, hh.nodup, hh.own, hh.ext, hh.glob⟩
  refine (call_core hc hs hh2 (ats_args ha hh)).mono ?_
  rintro ex w' ⟨i, v, _, rfl, hh', hR⟩
  have hk := hh'.slots 0 _ rfl
  have hk' : Keeps w (TT e S) w' (TT e (S2 ++ B)) := hk
  rw [hTT] at hk'
  exact hK v w' ⟨hh'.size, hh'.defers, fun t X hX => (by simp [find] at hX), hh'.res, hh'.nodup, hh'.own, hh'.ext, hh'.glob⟩ hR hk'
end
end Go.Sep
namespace Go.Sep
open Go
open Enc (V)
section
variable {P : Program} {n : Nat} {e : Env P} {G : Ctx} {S S' S'' : List Res} {Q : Exit → Act → World → Prop} {a : Act} {w : World}
variable {d : Option Tmp} {dd : Nat} {t tn : TypeId} {x y hi : Operand} {ty : TypeId} {pos : String} {af : Array Edge} {g : Option (Nat × Bool)} {ops : Array Oper} {rest : List Oper}
theorem Holds.swapRow {r r' : Res} (hh : Holds n e G S a w) (hm : Repl S r [] S') {w' : World} (hext : Ext r.foot w w') (ho : ∀ b, b ∈ r'.foot → b ∈ r.foot ∨ w.heap.size ≤ b) (hnd : r'.foot.Nodup)
    (hr : Keeps w (TT e S) w' (TT e (r' :: S')) → r'.holds w' (TT e (r' :: S'))) : Holds n e G (r' :: S') a w' := by
  obtain ⟨B, hB1, hB2⟩ := hm.split
  have hB : S'.Perm B := by simpa using hB2
  refine hh.change (A := [r]) (A' := [r']) (B := S') (hB1.trans (hB.symm.append_left _)) (w' := w') (by simpa using hext) (by intro b hb; simp at hb ⊢; exact ho b hb) (by simpa using hnd) (by
    intro q hq
    simp at hq; subst hq
    refine hr (hext.keeps (fun b hb => .inr (List.mem_flatMap.2 ⟨_, hm.mem, hb⟩)) ?_)
    intro b hb hnt ht
    rcases ht with ht | ht
    · exact hnt (.inl ht)
    · rw [feet_cons] at ht
      rcases List.mem_append.1 ht with ht | ht
      · rcases ho b ht with h9 | h9
        · exact hnt (.inr (List.mem_flatMap.2 ⟨_, hm.mem, h9⟩))
        · omega
      · refine hnt (.inr ?_)
        obtain ⟨A, C, f1, f2⟩ := hm
        rw [f1]; rw [f2] at ht
        simp at ht ⊢
        rcases ht with ht | ht <;> simp [ht])
theorem strCells_bs (s : Bytes) : Lib.strCells (bs s) = s.map u8v := by simp [Lib.strCells, bs, u8v]
theorem run_appendS_row {el u : TypeId} (hE : GoEl P el UInt8 1) (hz0 : (P.info? el).bind (·.zero) = some (.int .u8 0)) (ht : P.underlying t = some (.slice el)) (hu : P.underlying u = some .string) {v : Value} {k : Nat} {xs : List Value} (hown : w.ownsRow 0 el 1 v k xs)
    (s : Bytes) (h63 : k + s.length ≤ maxLen) (hbytes : k + s.length ≤ 140737488355328) :
    ∃ v' w', (Builtin.append_ #[t, u] ty #[v, .string (bs s)]).run P w = .ok v' w' ∧ w'.ownsRow 0 el 1 v' (k + s.length) (xs ++ s.map u8v) ∧ w.grownBy w' v.ownBlock ∧
      (∀ b, v'.ownBlock = some b → v.ownBlock = some b ∨ w.heap.size ≤ b) := by
  obtain ⟨i, z, hi, hz, hs, hb, hzs⟩ := hE.parts
  have hz' : i.zero = some (.int .u8 0) := by rw [hi] at hz0; simpa using hz0
  have hs1 : i.size = 1 := hs
  have hsz : (bs s).size = s.length := bs_size s
  obtain ⟨v', w', hr, h2, h3, _⟩ := Lib.run_append_own_string (P := P) w 0 t u ty el i ht hu hi hz' hs1 hb v k xs hown (bs s) (by rw [hsz]; exact h63) (by rw [hsz]; exact hbytes) (Nat.zero_le _)
  rw [hsz, strCells_bs] at h2
  refine ⟨v', w', hr, h2, h3, fun b hbb => ?_⟩
  rcases hown.2 with ⟨hvn, hk0⟩ | ⟨gg, cap, cur, hv, hb0, hg, hnc, hcm, hcs, htake⟩
  · have hown' : w.ownsRow w.heap.size el 1 v k xs := ⟨hown.1, .inl ⟨hvn, hk0⟩⟩
    obtain ⟨v2, w2, hr2, h4, _, _⟩ := Lib.run_append_own_string (P := P) w w.heap.size t u ty el i ht hu hi hz' hs1 hb v k xs hown' (bs s) (by rw [hsz]; exact h63) (by rw [hsz]; exact hbytes) (Nat.le_refl _)
    rw [hr] at hr2
    injection hr2 with e1 e2
    subst e1; subst e2
    exact .inr (h4.lt b hbb).1
  · subst hv
    by_cases hroom : k + (bs s).size ≤ cap
    · have hr2 := Lib.run_append_room_string (P := P) w t u ty el i ht hu hi hs1 gg k cap cur hg (bs s) hroom (by rw [hcs]; omega)
      rw [hr] at hr2
      injection hr2 with e1 e2
      subst e1
      exact .inl hbb
    · have holds : ∀ j q, xs[j]? = some q → w.cell? ((⟨gg, 0, none⟩ : Addr).add j) = some q := hown.cells (g := gg) rfl
      have hr2 := Lib.run_append_grow_string (P := P) w t u ty el i (.int .u8 0) ht hu hi hz' ⟨gg, 0, none⟩ k cap xs (by rw [hs1]; exact hown.1) holds (bs s) (by omega) (by rw [hsz]; simp only [maxLen] at h63; omega) (by rw [hb]; exact growslice_fits (by omega) (by rw [hsz]; omega))
      rw [hr] at hr2
      injection hr2 with e1 e2
      subst e1
      simp [Value.ownBlock] at hbb
      right; omega
theorem J_appendS {el u : TypeId} {v : Value} {l s : Bytes} (hE : GoEl P el UInt8 1) (hz0 : (P.info? el).bind (·.zero) = some (.int .u8 0)) (ht : P.underlying t = some (.slice el)) (hu : P.underlying u = some .string) (hs : At G x (Is v)) (hx : At G y (VStr s))
    (hm : Repl S (RowR el v l) [] S') (hb : l.length + s.length ≤ 140737488355328) (hlt : Nat.blt dd n = true)
    (h : ∀ v', J n e ((dd, Is v') :: G) (RowR el v' (l ++ s) :: S') (wpList P ops Q rest)) :
    J n e G S (wpList P ops Q (⟨some dd, .call ⟨.builtin .append, #[x, y], #[t, u]⟩, ty, pos, af, none⟩ :: rest)) := by
  intro a w hh
  have hlt' : dd < n := by simpa [Nat.blt_eq] using hlt
  have e1 : a.eval x = v := hs.rep hh
  have e2 : a.eval y = .string (bs s) := hx.rep hh
  obtain ⟨xs, r1, r2⟩ := hh.res _ hm.mem
  refine wpList_plain rfl fun K hK => ?_
  obtain ⟨v', w', hrun, o1, o2, o3⟩ := run_appendS_row (P := P) (ty := ty) (w := w) hE hz0 ht hu r1 s (by simp only [maxLen]; omega) hb
  unfold Oper.wp
  have hex : (execOp a.eval ⟨some dd, .call ⟨.builtin .append, #[x, y], #[t, u]⟩, ty, pos, af, none⟩).run P w = .ok (.value v') w' := by
    simp only [execOp, resolve, invoke, builtin, Sem.run_bind, Sem.run_pure, Result.andThen_ok, List.map_toArray, List.map_cons, List.map_nil, e1, e2, hrun]
  rw [hex]
  have hext : Ext v.ownBlock.toList w w' := ⟨o2.os, o2.tape, o2.output, o2.size, fun b hb hnb => o2.block b hb (fun he => hnb (by rw [← he]; simp))⟩
  refine hK _ _ (h v' _ _ ((Holds.swapRow (r' := RowR el v' (l ++ s)) hh hm hext (by intro b hb; simp [RowR] at hb ⊢; exact o3 b hb) (by simp [RowR]; cases v'.ownBlock <;> simp) ?_).put rfl hlt'))
  intro hk
  exact ⟨xs ++ s.map u8v, by rw [List.length_append]; exact o1, cpl_append ((cpl l).mono r2 hk) cpl_u8_mk⟩
def RowM (el : TypeId) (v : Value) (l : Bytes) : Res where
  foot := v.ownBlock.toList
  holds w _ := ∃ g cap cur fr, v = .slice (some ⟨g, 0, none⟩) l.length cap ∧ w.heap[g]? = some (.cells cur el fr) ∧ (fr.2 = 0 ∨ cur.size ≤ fr.1) ∧ l.length ≤ cap ∧ cap ≤ maxLen ∧ cur.size = cap ∧ cur.toList.take l.length = l.map u8v
  lt := fun ⟨g, cap, cur, fr, hv, hg, _⟩ b hb => by
    subst hv; simp [Value.ownBlock] at hb; subst hb
    exact (Array.getElem?_eq_some_iff.1 hg).1
  mono := fun {w T w' T'} ⟨g, cap, cur, fr, hv, hg, h⟩ h1 h2 => by
    refine ⟨g, cap, cur, fr, hv, (h1 g (Array.getElem?_eq_some_iff.1 hg).1 (.inl ?_)).trans hg, h⟩
    subst hv; simp [Value.ownBlock]
theorem J_convM {el : TypeId} {l : Bytes} {src dst : TypeId} (hs : P.underlying src = some .string) (hd : P.underlying dst = some (.slice el)) (he : P.underlying el = some (.int .u8)) (hl : l.length ≤ maxLen) (hx : At G x (VStr l)) (hlt : Nat.blt dd n = true)
    (h : ∀ v, J n e ((dd, Is v) :: G) (RowM el v l :: S) (wpList P ops Q rest)) : J n e G S (wpList P ops Q (⟨some dd, .convert src dst x, ty, pos, af, none⟩ :: rest)) := by
  intro a w hh
  have hlt' : dd < n := by simpa [Nat.blt_eq] using hlt
  refine wpList_plain rfl fun K hK => ?_
  have h1 : a.eval x = .string (bs l) := hx.rep hh
  have hrun := run_bytes_of_string (P := P) w src dst el (bs l) hs hd he
  have hge := grownCap_ge w (bs l).size 0 el
  have hle := grownCap_le_maxLen w (bs l).size 0 el (by rw [bs_size]; exact hl)
  obtain ⟨C, hC⟩ : ∃ C, C = bytesRow (bs l) (grownCap w (bs l).size 0 el) := ⟨_, rfl⟩
  rw [← hC] at hrun
  have hn := heap_alloc_new w.drew (.cells C el (C.size, C.size + 1))
  unfold Oper.wp
  have hex : (execOp a.eval ⟨some dd, .convert src dst x, ty, pos, af, none⟩).run P w = .ok (.value (.slice (some ⟨w.heap.size, 0, none⟩) (bs l).size (grownCap w (bs l).size 0 el))) (w.drew.alloc (.cells C el (C.size, C.size + 1))) := by
    simp only [execOp, h1, Sem.run_bind, hrun, Result.andThen_ok, Sem.run_pure]
  rw [hex]
  rw [bs_size] at hge
  have hCs : C.size = grownCap w l.length 0 el := by
    have h1 := bs_size l
    rw [hC]
    simp only [bytesRow, Array.size_append, Array.size_map, Array.size_replicate]
    show (bs l).size + (grownCap w (bs l).size 0 el - (bs l).size) = _
    rw [h1]; omega
  have hx2 : Ext [] w (w.drew.alloc (.cells C el (C.size, C.size + 1))) := (Ext.drew [] w).trans (Ext.alloc [] w.drew _)
  rw [bs_size] at hle ⊢
  refine hK _ _ (h _ _ _ ((hh.new (r := RowM el (.slice (some ⟨w.heap.size, 0, none⟩) l.length (grownCap w l.length 0 el)) l) hx2 (by intro b hb; simp [RowM, Value.ownBlock] at hb; omega) (by simp [RowM, Value.ownBlock])
    ⟨w.heap.size, _, C, _, rfl, hn, .inr (Nat.le_refl _), hge, hle, hCs, ?_⟩).put rfl hlt'))
  rw [hC, bs_size]
  apply List.ext_getElem?
  intro j
  simp [bytesRow, bs, List.take_append]
  rfl
theorem run_storeCells_atM (P : Program) (g o : Nat) (t : TypeId) (fz : Nat × Nat) : ∀ (vs : List Value) (i : Nat) (cur : Array Value) (w : World), w.heap[g]? = some (.cells cur t fz) → (fz.2 = 0 ∨ cur.size ≤ fz.1) → o + i + vs.length ≤ cur.size → (∀ v ∈ vs, v.oneCell' = true) →
    (storeCells ⟨g, o, none⟩ vs i).run P w = .ok () (w.setRow g (cur.toList.take (o + i) ++ vs ++ cur.toList.drop (o + i + vs.length)).toArray)
  | [], i, cur, w, hg, _, _, _ => by
    simp only [storeCells, List.append_nil, List.length_nil, Nat.add_zero, List.take_append_drop, Array.toArray_toList]
    rw [setRow_self w g cur t fz hg]
    rfl
  | v :: rest, i, cur, w, hg, hfz, hl, h1 => by
    have hi : o + i < cur.size := by simp at hl; omega
    have hadd : (⟨g, o, none⟩ : Addr).add i = ⟨g, o + i, none⟩ := by unfold Addr.add; split <;> simp_all
    have hcell : w.cell? ⟨g, o + i, none⟩ = some cur[o + i] := by simp [World.cell?, hg, hi]
    have hfro : w.frozen? ⟨g, o + i, none⟩ = false := by
      obtain ⟨lo, hi'⟩ := fz
      simp only [World.frozen?, hg, Bool.and_eq_false_iff, decide_eq_false_iff_not]
      simp only at hfz
      rcases hfz with hfz | hfz
      · right; omega
      · left; omega
    have hst : (store ((⟨g, o, none⟩ : Addr).add i) v).run P w = .ok () (w.setRow g (cur.setIfInBounds (o + i) v)) := by
      rw [hadd, run_store P w _ v _ (h1 v (by simp)), hcell]
      simp [hfro, setCell_eq_setRow w g (o + i) cur t fz v hg]
    have ih := run_storeCells_atM P g o t fz rest (i + 1) (cur.setIfInBounds (o + i) v) (w.setRow g (cur.setIfInBounds (o + i) v)) (setRow_heap w g cur _ t _ hg) (by simpa using hfz) (by simp at hl ⊢; omega) (fun x hx => h1 x (by simp [hx]))
    simp only [storeCells, Sem.run_bind, hst, Result.andThen_ok, ih, setRow_setRow]
    congr 3
    have e := list_seg_step cur.toList (o + i) v rest (by simp at hl ⊢; omega)
    simpa [Array.toList_setIfInBounds, Nat.add_assoc] using e
theorem run_append_roomM (t ty e : TypeId) (i : TypeInfo) (ht : P.underlying t = some (.slice e)) (hi : P.info? e = some i)
    (g sLen sCap : Nat) (cur : Array Value) (fz : Nat × Nat) (hg : w.heap[g]? = some (.cells cur e fz)) (hfz : fz.2 = 0 ∨ cur.size ≤ fz.1)
    (a : Addr) (m c : Nat) (news : List Value) (hl : news.length = m * i.size) (hnews : ∀ j u, news[j]? = some u → w.cell? (a.add j) = some u) (h1 : ∀ u ∈ news, u.oneCell' = true)
    (hroom : sLen + m ≤ sCap) (hfit : sLen * i.size + news.length ≤ cur.size) :
    (Builtin.append_ #[t, t] ty #[.slice (some ⟨g, 0, none⟩) sLen sCap, .slice (some a) m c]).run P w =
      .ok (.slice (some ⟨g, 0, none⟩) (sLen + m) sCap) (w.setRow g (cur.toList.take (sLen * i.size) ++ news ++ cur.toList.drop (sLen * i.size + news.length)).toArray) := by
  have hf := run_firstCells_some (P := P) w i.size m a m c news hl hnews
  have hst := run_storeCells_atM P g (sLen * i.size) e fz news 0 cur w hg hfz (by simpa using hfit) h1
  simp only [Nat.add_zero] at hst
  simp [Builtin.append_, run_underlying ht, sizeOf, typeInfo, hi, Builtin.lenOf, hroom, hf, Addr.add_lit, hst]
theorem J_appendM {el : TypeId} {v : Value} {l l2 : Bytes} (hE : GoEl P el UInt8 1) (ht : P.underlying t = some (.slice el)) (hs : At G x (Is v)) (hx : At G y (Sl l2)) (hn0 : l2 ≠ [])
    (hm : Repl S (RowM el v l) [] S') (hb : l.length + l2.length ≤ 140737488355328) (hlt : Nat.blt dd n = true)
    (h : ∀ v', J n e ((dd, Is v') :: G) (RowM el v' (l ++ l2) :: S') (wpList P ops Q rest)) :
    J n e G S (wpList P ops Q (⟨some dd, .call ⟨.builtin .append, #[x, y], #[t, t]⟩, ty, pos, af, none⟩ :: rest)) := by
  intro a w hh
  have hlt' : dd < n := by simpa [Nat.blt_eq] using hlt
  obtain ⟨gb, cap, cur, fr, rfl, hg, hfr, hc1, hc2, hc3, hc4⟩ := hh.res _ hm.mem
  have e1 : a.eval x = .slice (some ⟨gb, 0, none⟩) l.length cap := hs.rep hh
  obtain ⟨ad, c, ys, k1, k2, k3, k4, k5, k6⟩ := hx.rep hh
  obtain ⟨gy, off, rfl, _, _, hr⟩ := k6 hn0
  have hys : ys = l2.map u8v := cpl_u8 k5
  subst hys
  refine wpList_plain rfl fun K hK => ?_
  obtain ⟨i, z, hi, hz, hsz, hbt, hzs⟩ := hE.parts
  have hs1 : i.size = 1 := hsz
  have hone : ∀ u ∈ l2.map u8v, u.oneCell' = true := fun u hu => cpl_one k5 u hu
  have hlt2 : 0 < l2.length := List.length_pos_iff.2 hn0
  unfold Oper.wp
  by_cases hroom : l.length + l2.length ≤ cap
  · have hrun := run_append_roomM (P := P) (w := w) t ty el i ht hi gb l.length cap cur fr hg hfr ⟨gy, off, none⟩ l2.length c (l2.map u8v) (by rw [hs1]; simp) hr.add hone hroom (by rw [hs1]; simp; omega)
    have hex : (execOp a.eval ⟨some dd, .call ⟨.builtin .append, #[x, y], #[t, t]⟩, ty, pos, af, none⟩).run P w = .ok (.value (.slice (some ⟨gb, 0, none⟩) (l.length + l2.length) cap)) (w.setRow gb (cur.toList.take (l.length * i.size) ++ l2.map u8v ++ cur.toList.drop (l.length * i.size + (l2.map u8v).length)).toArray) := by
      simp only [execOp, resolve, invoke, builtin, Sem.run_bind, Sem.run_pure, Result.andThen_ok, List.map_toArray, List.map_cons, List.map_nil, e1, k1, hrun]
    rw [hex]
    have hlen : (l ++ l2).length = l.length + l2.length := List.length_append
    refine hK _ _ (h _ _ _ ((Holds.swapRow (r' := RowM el (.slice (some ⟨gb, 0, none⟩) (l.length + l2.length) cap) (l ++ l2)) hh hm (by simpa [RowM, Value.ownBlock] using Ext.setRow w gb _) (by intro b hb; exact .inl (by simpa [RowM, Value.ownBlock] using hb)) (by simp [RowM, Value.ownBlock]) ?_).put rfl hlt'))
    intro _
    refine ⟨gb, cap, _, fr, by rw [hlen], setRow_heap w gb cur _ el _ hg, ?_, by rw [hlen]; exact hroom, hc2, ?_, ?_⟩
    · rcases hfr with q | q
      · exact .inl q
      · right; simp [hs1]; omega
    · simp [hs1]; omega
    · rw [hs1, Nat.mul_one, hc4, hlen, List.map_append]
      have : (l.map u8v ++ l2.map u8v).length = l.length + l2.length := by simp
      show (l.map u8v ++ l2.map u8v ++ _).take _ = _
      rw [← this, List.take_left']
      rfl
  · have holds : ∀ j u, (l.map u8v)[j]? = some u → w.cell? ((⟨gb, 0, none⟩ : Addr).add j) = some u := fun j u hu => by
      have hadd : (⟨gb, 0, none⟩ : Addr).add j = ⟨gb, j, none⟩ := by unfold Addr.add; split <;> simp_all
      rw [hadd, cell_of_row w gb j cur el fr hg]
      rw [← hc4, List.getElem?_take] at hu
      split at hu
      · simpa using hu
      · cases hu
    have hrun := run_append_grow (P := P) w t ty el i z ht hi hz ⟨gb, 0, none⟩ l.length cap (l.map u8v) (by rw [hs1]; simp) holds ⟨gy, off, none⟩ l2.length c (l2.map u8v) (by rw [hs1]; simp) hr.add (by omega) (by omega) (by rw [hbt]; exact growslice_fits (by omega) (by omega))
    have hge := grownCap_ge w (l.length + l2.length) cap el
    have hle := grownCap_le_maxLen w (l.length + l2.length) cap el (by simp only [maxLen]; omega)
    have hex : (execOp a.eval ⟨some dd, .call ⟨.builtin .append, #[x, y], #[t, t]⟩, ty, pos, af, none⟩).run P w = .ok (.value (.slice (some ⟨w.heap.size, 0, none⟩) (l.length + l2.length) (grownCap w (l.length + l2.length) cap el)))
        (w.drew.alloc (.cells ((l.map u8v).toArray ++ (l2.map u8v).toArray ++ Builtin.zeroCells z.cells (grownCap w (l.length + l2.length) cap el - (l.length + l2.length))) el)) := by
      simp only [execOp, resolve, invoke, builtin, Sem.run_bind, Sem.run_pure, Result.andThen_ok, List.map_toArray, List.map_cons, List.map_nil, e1, k1, hrun]
    rw [hex]
    have hn := heap_alloc_new w.drew (.cells ((l.map u8v).toArray ++ (l2.map u8v).toArray ++ Builtin.zeroCells z.cells (grownCap w (l.length + l2.length) cap el - (l.length + l2.length))) el)
    have hlen : (l ++ l2).length = l.length + l2.length := List.length_append
    have hx2 : ∀ M, Ext M w (w.drew.alloc (.cells ((l.map u8v).toArray ++ (l2.map u8v).toArray ++ Builtin.zeroCells z.cells (grownCap w (l.length + l2.length) cap el - (l.length + l2.length))) el)) := fun M => (Ext.drew M w).trans (Ext.alloc M w.drew _)
    refine hK _ _ (h _ _ _ ((Holds.swapRow (r' := RowM el (.slice (some ⟨w.heap.size, 0, none⟩) (l.length + l2.length) (grownCap w (l.length + l2.length) cap el)) (l ++ l2)) hh hm (hx2 _) (by intro b hb; simp [RowM, Value.ownBlock] at hb; right; omega) (by simp [RowM, Value.ownBlock]) ?_).put rfl hlt'))
    intro _
    refine ⟨w.heap.size, _, _, (0, 0), by rw [hlen], hn, .inl rfl, by rw [hlen]; exact hge, hle, ?_, ?_⟩
    · have hz1 : z.cells.size = 1 := hzs
      simp only [Array.size_append, List.size_toArray, List.length_map, size_zeroCells, hz1]
      omega
    · rw [hlen, List.map_append]
      have : (l.map u8v ++ l2.map u8v).length = l.length + l2.length := by simp
      simp only [Array.toList_append, List.append_assoc]
      rw [← List.append_assoc, ← this, List.take_left']
      rfl
theorem J_appendA {el : TypeId} {v : Value} {l l2 : Bytes} (hE : GoEl P el UInt8 1) (ht : P.underlying t = some (.slice el)) (hs : At G x (Is v)) (hx : At G y (Sl l2))
    (hm : Repl S (RowM el v l) [] S') (hb : l.length + l2.length ≤ 140737488355328) (hlt : Nat.blt dd n = true)
    (h : ∀ v', J n e ((dd, Is v') :: G) (RowM el v' (l ++ l2) :: S') (wpList P ops Q rest)) :
    J n e G S (wpList P ops Q (⟨some dd, .call ⟨.builtin .append, #[x, y], #[t, t]⟩, ty, pos, af, none⟩ :: rest)) := by
  by_cases hn0 : l2 = []
  · subst hn0
    intro a w hh
    have hlt' : dd < n := by simpa [Nat.blt_eq] using hlt
    have hr0 := hh.res _ hm.mem
    obtain ⟨gb, cap, cur, fr, rfl, hg, hfr, hc1, hc2, hc3, hc4⟩ := hr0
    have e1 : a.eval x = .slice (some ⟨gb, 0, none⟩) l.length cap := hs.rep hh
    obtain ⟨ad, c, ys, k1, k2, k3, k4, k5, k6⟩ := hx.rep hh
    obtain ⟨i, z, hi, hz, hsz, hbt, hzs⟩ := hE.parts
    refine wpList_plain rfl fun K hK => ?_
    have hrun : (Builtin.append_ #[t, t] ty #[.slice (some ⟨gb, 0, none⟩) l.length cap, a.eval y]).run P w = .ok (.slice (some ⟨gb, 0, none⟩) l.length cap) w := by
      rw [k1]
      cases ad with
      | none => simp [Builtin.append_, run_underlying ht, sizeOf, typeInfo, hi, Builtin.lenOf, Builtin.firstCells, hc1, storeCells]
      | some ad =>
        have := run_append_roomM (P := P) (w := w) t ty el i ht hi gb l.length cap cur fr hg hfr ad 0 c [] (by simp) (by simp) (by simp) (by omega) (by have hs1 : i.size = 1 := hsz; rw [hs1]; simp; omega)
        simp only [List.length_nil, Nat.add_zero, List.append_nil, List.take_append_drop, Array.toArray_toList, setRow_self w gb cur el fr hg] at this ⊢
        exact this
    unfold Oper.wp
    have hex : (execOp a.eval ⟨some dd, .call ⟨.builtin .append, #[x, y], #[t, t]⟩, ty, pos, af, none⟩).run P w = .ok (.value (.slice (some ⟨gb, 0, none⟩) l.length cap)) w := by
      simp only [execOp, resolve, invoke, builtin, Sem.run_bind, Sem.run_pure, Result.andThen_ok, List.map_toArray, List.map_cons, List.map_nil, e1, hrun]
    rw [hex]
    refine hK _ _ (h _ _ _ ((Holds.swapRow (r' := RowM el (.slice (some ⟨gb, 0, none⟩) l.length cap) (l ++ [])) hh hm (Ext.refl _ _) (by intro b hb; exact .inl (by simpa [RowM, Value.ownBlock] using hb)) (by simp [RowM, Value.ownBlock]) ?_).put rfl hlt'))
    intro _
    rw [List.append_nil]
    exact ⟨gb, cap, cur, fr, rfl, hg, hfr, hc1, hc2, hc3, hc4⟩
  · exact J_appendM hE ht hs hx hn0 hm hb hlt h
theorem J_freezeRM {el : TypeId} {v : Value} {l : Bytes} {sl : Nat} {K : Act → World → Prop} (hm : Repl S (RowM el v l) [] S') (hf : find G sl = some (Is v)) (h : J n e ((sl, Sl l) :: G) S' K) : J n e G S K := by
  intro a w hh
  obtain ⟨gb, cap, cur, fr, rfl, hg, hfr, hc1, hc2, hc3, hc4⟩ := hh.res _ hm.mem
  have hlo := hh.lose hm
  have hnb : ¬ TT e S' gb := by
    intro hc
    have hbf : gb ∈ (RowM el (.slice (some ⟨gb, 0, none⟩) l.length cap) l).foot := by simp [RowM, Value.ownBlock]
    have hnd := hh.nodup
    have hap := hh.apart gb (List.mem_flatMap.2 ⟨_, hm.mem, hbf⟩)
    obtain ⟨A, B, e1, e2⟩ := hm
    rw [e1] at hnd
    rcases hc with hc | hc
    · exact hap hc
    · rw [e2] at hc
      simp at hc
      rw [feet_append, feet_cons] at hnd
      obtain ⟨_, hnd2, hnd3⟩ := List.nodup_append.1 hnd
      rcases hc with hc | hc
      · exact hnd3 gb hc gb (List.mem_append_left _ hbf) rfl
      · obtain ⟨_, _, hnd4⟩ := List.nodup_append.1 hnd2
        exact hnd4 gb hbf gb hc rfl
  have hsl := hh.slots sl _ hf
  refine h a w ⟨hlo.size, hlo.defers, ?_, hlo.res, hlo.nodup, hlo.own, hlo.ext, hlo.glob⟩
  intro t' Z hz
  rw [find_cons] at hz
  by_cases ht : sl = t'
  · subst ht
    rw [if_pos rfl] at hz
    obtain rfl := Option.some.inj hz
    have hv : a.tmps.getD sl undef = .slice (some ⟨gb, 0, none⟩) l.length cap := hsl
    rw [hv]
    refine ⟨_, cap, l.map u8v, rfl, hc1, hc2, (fun h => by cases h), cpl_u8_mk, fun _ => ⟨gb, 0, rfl, hnb, (Array.getElem?_eq_some_iff.1 hg).1, fun j u hj => ?_⟩⟩
    rw [Nat.zero_add, cell_of_row w gb j cur el fr hg]
    rw [← hc4, List.getElem?_take] at hj
    split at hj
    · simpa using hj
    · cases hj
  · rw [if_neg ht] at hz
    exact hlo.slots t' Z hz
end
end Go.Sep
namespace Go.Sep
open Go
open Enc (V)
section
variable {P : Program} {n : Nat} {e : Env P} {G : Ctx} {S S' S'' : List Res} {Q : Exit → Act → World → Prop} {a : Act} {w : World}
variable {α : Type} [Enc α] {d : Option Tmp} {dd : Nat} {t tn : TypeId} {x y hi : Operand} {ty : TypeId} {pos : String} {af : Array Edge} {g : Option (Nat × Bool)} {ops : Array Oper} {rest : List Oper}
theorem Repl.perm0 {r : Res} (h : Repl S r [] S') : S.Perm (r :: S') := by
  obtain ⟨A, B, rfl, rfl⟩ := h
  simp
theorem J_perm {K : Act → World → Prop} (hp : S.Perm S') (h : J n e G S' K) : J n e G S K := fun a w hh => h a w (hh.perm hp)
theorem J_gen {el : TypeId} {v : Value} {l : List α} {K : Act → World → Prop} (hm : Repl S (RowR el v l) [] S') (h : ∀ l2 : List α, l2.length = l.length → J n e G (RowR el v l2 :: S') K) : J n e G S K := J_perm hm.perm0 (h l rfl)
theorem J_genB {tb : TypeId} {b : Nat} {z : α} {K : Act → World → Prop} (hm : Repl S (BoxR tb b z) [] S') (h : ∀ z2 : α, J n e G (BoxR tb b z2 :: S') K) : J n e G S K := J_perm hm.perm0 (h z)
theorem J_makeRow {el by_ : Nat} {z : α} {k : Nat} {k1 k2 : IntKind} (hE : GoEl P el α by_) (hz : GoZ P el z) (ht : P.underlying t = some (.slice el)) (hx : At G x (VInt k1 (k : Nat))) (hy : At G y (VInt k2 (k : Nat))) (hb : by_ * k ≤ 281474976710656) (hs : k * Enc.size α ≤ 16777216) (hm : k ≤ maxLen) (hlt : Nat.blt dd n = true)
    (h : ∀ v, J n e ((dd, Is v) :: G) (RowR el v (List.replicate k z) :: S) (wpList P ops Q rest)) : J n e G S (wpList P ops Q (⟨some dd, .makeSlice t x y, ty, pos, af, none⟩ :: rest)) := by
  intro a w hh
  have hlt' : dd < n := by simpa [Nat.blt_eq] using hlt
  refine wpList_plain rfl fun K hK => ?_
  have e1 : a.eval x = .int k1 (k : Nat) := hx.rep hh
  have e2 : a.eval y = .int k2 (k : Nat) := hy.rep hh
  obtain ⟨i, z0, hi, hz0, hsz, hbt, hzs⟩ := hE.parts
  obtain ⟨zv, hzi, hzv⟩ := hz
  have hzz : z0 = zv := by rw [hi] at hzi; simp [hz0] at hzi; exact hzi
  subst hzz
  obtain ⟨w', hrun, ho, hg⟩ := run_makeSlice_full (P := P) w w.heap.size t el i z0 (Enc.size α) ht hi hz0 hsz k1 k2 k hs (by rw [hbt]; exact hb) hm (Nat.le_refl _)
  unfold Oper.wp
  have hex : (execOp a.eval ⟨some dd, .makeSlice t x y, ty, pos, af, none⟩).run P w = .ok (.value (.slice (some ⟨w.heap.size, 0, none⟩) k k)) w' := by
    simp only [execOp, Sem.run_bind, e1, e2, hrun, Result.andThen_ok, Sem.run_pure]
  rw [hex]
  have hx2 : Ext [] w w' := ⟨hg.os, hg.tape, hg.output, hg.size, fun b hb _ => hg.block b hb (by simp)⟩
  refine hK _ _ (h _ _ _ ((hh.new (r := RowR el (.slice (some ⟨w.heap.size, 0, none⟩) k k) (List.replicate k z)) hx2 (by intro b hb; simp [RowR, Value.ownBlock] at hb; omega) (by simp [RowR, Value.ownBlock]) ?_).put rfl hlt'))
  refine ⟨(Builtin.zeroCells z0.cells k).toList, ?_, cpl_zeros (hzv _ _) k⟩
  have hmc : madeCells z0.cells (k * Enc.size α) = Builtin.zeroCells z0.cells k := by unfold madeCells Builtin.zeroCells; rw [hzs]
  rw [hmc] at ho
  have ho' : w'.ownsRow 0 el (Enc.size α) (.slice (some ⟨w.heap.size, 0, none⟩) k k) k (Builtin.zeroCells z0.cells k).toList := by
    refine ⟨ho.1, ?_⟩
    rcases ho.2 with q | ⟨g, cap, cur, q1, q2, q3⟩
    · exact .inl q
    · exact .inr ⟨g, cap, cur, q1, Nat.zero_le _, q3⟩
  rw [List.length_replicate]
  exact ho'
end
end Go.Sep
namespace Go.Sep
open Go
open Enc (V)
section
variable {P : Program} {n : Nat} {e : Env P} {G : Ctx} {S S' : List Res} {Q : Exit → Act → World → Prop}
theorem J_drawG {id : Nat} {l : List Oper} {ι₁ ι₂ : Type} (SS : Option ι₁ → Option ι₂ → List Res) (c1 : ι₁ → Prop) (c2 : ι₂ → Prop) (X1 : ι₁ → VP) (X2 : ι₂ → VP) (hS : S = SS none none) (hm : P.follows .mixedOrders = true) (m p q : Nat) (ds : List Nat) (Xs : List VP)
    (hsl : Nat.ble m l.length = true) (hds : (l.take m).map (·.dst) = ds.map some) (hdn : nodupB ds = true) (hdl : ds.all (Nat.blt · n) = true) (hback : backOk l = true) (hsrc : (List.range m).all (srcOk l ds) = true) (htail : tailOk l m = true)
    (hpq : Nat.beq p q = false) (hgp : ∀ o, l[p]? = some o → o.guard = none) (hgq : ∀ o, l[q]? = some o → o.guard = none) (hXp : p < m → Xs[p]? = some Any) (hXq : q < m → Xs[q]? = some Any)
    (sk : List Bool) (hsk : sk = (List.range m).map fun i => Nat.beq i p || Nat.beq i q)
    (hq : ∀ o1 o2, QAllB P n e G (SS o1 o2) l ds Xs 0 (l.take m) Xs sk)
    (hE1 : ∀ o2, ∀ o, l[p]? = some o → ∀ a w, Holds n e (lctx G ds Xs l p) (SS none o2) a w → ∀ (K : Act → World → Prop) (Q : Exit → Act → World → Prop),
      (∀ i v w', c1 i → Holds n e [] (SS (some i) o2) a w' → (X1 i).rep w' (TT e (SS (some i) o2)) v → Keeps w (TT e (SS none o2)) w' (TT e (SS (some i) o2)) → K (a.put o.dst v) w') → o.wp P a w K Q)
    (hE2 : ∀ o1, ∀ o, l[q]? = some o → ∀ a w, Holds n e (lctx G ds Xs l q) (SS o1 none) a w → ∀ (K : Act → World → Prop) (Q : Exit → Act → World → Prop),
      (∀ i v w', c2 i → Holds n e [] (SS o1 (some i)) a w' → (X2 i).rep w' (TT e (SS o1 (some i))) v → Keeps w (TT e (SS o1 none)) w' (TT e (SS o1 (some i))) → K (a.put o.dst v) w') → o.wp P a w K Q)
    (h : ∀ o1 o2, (o1.isSome = true ↔ p < m) → (o2.isSome = true ↔ q < m) → (∀ i, o1 = some i → c1 i) → (∀ i, o2 = some i → c2 i) →
      J n e ((o1.toList.map fun i => (ds.getD p 0, X1 i)) ++ ((o2.toList.map fun i => (ds.getD q 0, X2 i)) ++ (ds.zip Xs ++ G))) (SS o1 o2) (wpList P l.toArray Q (l.drop m))) : J n e G S ((Code.region id l.toArray true).wp P Q) := by
  intro a w hh
  have hsl' : m ≤ l.length := by simpa [Nat.ble_eq] using hsl
  have hlen := (hq none none).get.1
  have hget := fun o1 o2 => (hq o1 o2).get.2
  have hpq' : p ≠ q := fun e => by rw [e, show Nat.beq q q = true from by simp] at hpq; cases hpq
  have hdlen : ds.length = m := by
    have := congrArg List.length hds
    simp at this; omega
  have hXlen : Xs.length = m := by rw [← hlen]; simp; omega
  have hdst : ∀ i o, i < m → l[i]? = some o → o.dst = some (ds.getD i 0) := by
    intro i o hi ho
    have h1 : ((l.take m).map (·.dst))[i]? = (ds.map some)[i]? := by rw [hds]
    rw [List.getElem?_map, List.getElem?_take, if_pos hi, ho, List.getElem?_map] at h1
    have hid : i < ds.length := by omega
    rw [List.getElem?_eq_getElem hid] at h1
    simp at h1
    rw [h1, List.getD_eq_getElem?_getD, List.getElem?_eq_getElem hid]; rfl
  have hdlt : ∀ i, i < m → ds.getD i 0 < n := by
    intro i hi
    have hid : i < ds.length := by omega
    have := List.all_eq_true.1 hdl ds[i] (List.getElem_mem hid)
    rw [List.getD_eq_getElem?_getD, List.getElem?_eq_getElem hid]
    simpa [Nat.blt_eq] using this
  have hnd := nodupB_spec hdn
  have hdne : ∀ i j, i < m → j < m → i ≠ j → ds.getD i 0 ≠ ds.getD j 0 := by
    intro i j hi hj hij heq
    have hid : i < ds.length := by omega
    have hjd : j < ds.length := by omega
    rw [List.getD_eq_getElem?_getD, List.getD_eq_getElem?_getD, List.getElem?_eq_getElem hid, List.getElem?_eq_getElem hjd] at heq
    have heq' : ds[i] = ds[j] := by simpa using heq
    rcases Nat.lt_or_gt_of_ne hij with h | h
    · exact List.pairwise_iff_getElem.1 hnd i j hid hjd h heq'
    · exact List.pairwise_iff_getElem.1 hnd j i hjd hid h heq'.symm
  have hlt : ∀ i o, l[i]? = some o → ∀ k, k ∈ direct o → k < i := by
    intro i o ho k hk
    have h1 := List.all_eq_true.1 hback i (List.mem_range.2 (List.getElem?_eq_some_iff.1 ho).1)
    simp only [ho] at h1
    simpa using List.all_eq_true.1 h1 k hk
  -- the tail
  have tail : ∀ (fuel k : Nat) (listed : Array Bool) (a : Act) (w : World), m ≤ k → k ≤ l.length → fuel = l.length - k → listed.size = l.length → (∀ j, j < l.length → (listed.getD j false = true ↔ j < k)) →
      wpList P l.toArray Q (l.drop k) a w → wpAny P .any l.toArray Q fuel listed a w := by
    intro fuel
    induction fuel with
    | zero =>
      intro k listed a w hsk hkl hf hls hlist hw
      have hke : k = l.length := by omega
      subst hke
      rw [List.drop_length] at hw
      refine wpAny_done ?_ hw 0
      apply List.eq_nil_iff_forall_not_mem.2
      intro j hj
      obtain ⟨h1, oj, ho, _⟩ := mem_ready.1 hj
      have hjl : j < l.length := by
        have := (Array.getElem?_eq_some_iff.1 ho).1; simpa using this
      have h2 := (hlist j hjl).2 hjl
      have h3 : listed.getD j false = false := listed_get (by rw [hls]; exact hjl) h1
      rw [h3] at h2; cases h2
    | succ fuel ih =>
      intro k listed a w hsk hkl hf hls hlist hw
      have hk : k < l.length := by omega
      have hok : l[k]? = some l[k] := List.getElem?_eq_getElem hk
      have hko : l.toArray[k]? = some l[k] := by simp [hok]
      have hready : ∀ i, i ∈ Region.ready .any l.toArray listed → i = k := by
        intro i hi
        obtain ⟨h1, oi, ho, hall⟩ := mem_ready.1 hi
        have hil : i < l.length := by
          have := (Array.getElem?_eq_some_iff.1 ho).1; simpa using this
        have h3 : listed.getD i false = false := listed_get (by rw [hls]; exact hil) h1
        have hnk : ¬ i < k := fun hik => by rw [(hlist i hil).2 hik] at h3; cases h3
        by_cases hne : i = k
        · exact hne
        · exfalso
          have hoi : l[i]? = some oi := by simpa using ho
          have ht := List.all_eq_true.1 htail i (List.mem_range.2 hil)
          simp only [Bool.or_eq_true, decide_eq_true_eq] at ht
          rcases ht with ht | ht
          · omega
          · have hb := List.all_eq_true.1 ht k (List.mem_range.2 (by omega))
            have hdown : Down l (fun j => j < k) := by
              intro j o' ho' hj k' hk'
              exact Nat.lt_trans (hlt j o' ho' k' hk') hj
            have hdi : ∀ k', k' ∈ direct oi → k' < k := by
              intro k' hk'
              unfold direct at hk'
              obtain ⟨ed, he1, he2⟩ := List.mem_map.1 hk'
              rw [List.mem_filter] at he1
              have h4 := hall ed (by simpa using he1.1) he1.2
              rw [he2] at h4
              have hkl' : k' < l.length := Nat.lt_trans (hlt i oi hoi k' (by unfold direct; exact hk')) hil
              exact (hlist k' hkl').1 h4
            have := bits_down hdown hlt i oi hoi hdi k hb
            omega
      refine ⟨fun h0 => ?_, fun i hi => ?_⟩
      · exfalso
        have : k ∈ Region.ready .any l.toArray listed := by
          refine mem_ready.2 ⟨?_, l[k], hko, ?_⟩
          · have h5 : ¬ listed.getD k false = true := fun h => by have := (hlist k hk).1 h; omega
            have : k < listed.size := by rw [hls]; exact hk
            simp [this] at h5 ⊢; exact h5
          · intro ed he hb
            have hkd : ed.on ∈ direct l[k] := by unfold direct; exact List.mem_map.2 ⟨ed, List.mem_filter.2 ⟨by simpa using he, hb⟩, rfl⟩
            have h6 := hlt k l[k] hok ed.on hkd
            exact (hlist ed.on (by omega)).2 h6
        rw [h0] at this; cases this
      · obtain rfl := hready i hi
        have hdrop : l.drop i = l[i] :: l.drop (i + 1) := List.drop_eq_getElem_cons hk
        rw [hdrop] at hw
        unfold wpOp
        simp only [hko]
        have hset : ∀ a w, wpList P l.toArray Q (l.drop (i + 1)) a w → wpAny P .any l.toArray Q fuel (listed.setIfInBounds i true) a w := by
          intro a w hw
          refine ih (i + 1) _ a w (by omega) (by omega) (by omega) (by simpa using hls) (fun j hj => ?_) hw
          by_cases hji : i = j
          · subst hji
            have : i < listed.size := by rw [hls]; exact hk
            simp [this]
          · rw [getD_set_ne false hji, hlist j hj]; omega
        unfold wpList at hw
        split
        · rename_i hwn
          rw [if_pos hwn] at hw
          exact hw.imp (Oper.wp_mono hset) (fun x => x)
        · rename_i hwn
          rw [if_neg hwn] at hw
          exact hset _ _ hw
  have hctx : ∀ (o1 : Option ι₁) (o2 : Option ι₂) (a : Act) (w : World) (L : Nat → Prop), (∀ j, j < m → L j) → Inv n e G (SS o1 o2) ds Xs (fun j => j < m ∧ L j) a w →
      (∀ i, o1 = some i → (X1 i).rep w (TT e (SS o1 o2)) (a.tmps.getD (ds.getD p 0) undef)) → (∀ i, o2 = some i → (X2 i).rep w (TT e (SS o1 o2)) (a.tmps.getD (ds.getD q 0) undef)) →
      Holds n e ((o1.toList.map fun i => (ds.getD p 0, X1 i)) ++ ((o2.toList.map fun i => (ds.getD q 0, X2 i)) ++ (ds.zip Xs ++ G))) (SS o1 o2) a w := by
    intro o1 o2 a w L hall hinv h1 h2
    refine ⟨hinv.base.size, hinv.base.defers, fun t X hX => ?_, hinv.base.res, hinv.base.nodup, hinv.base.own, hinv.base.ext, hinv.base.glob⟩
    have base : ∀ t X, find (ds.zip Xs ++ G) t = some X → X.rep w (TT e (SS o1 o2)) (a.tmps.getD t undef) := fun t X hX => by
      rcases find_zip (by omega) hX with ⟨j, h1, h2, h3⟩ | ⟨h1, h2⟩
      · rw [← h2]; exact hinv.done j X ⟨by omega, hall j (by omega)⟩ h3
      · exact hinv.old t X h1 (fun j _ hj => h2 j hj)
    have base2 : ∀ t X, find ((o2.toList.map fun i => (ds.getD q 0, X2 i)) ++ (ds.zip Xs ++ G)) t = some X → X.rep w (TT e (SS o1 o2)) (a.tmps.getD t undef) := fun t X hX => by
      cases o2 with
      | none => exact base t X hX
      | some i =>
        simp only [Option.toList_some, List.map_cons, List.map_nil, List.cons_append, List.nil_append] at hX
        rw [find_cons] at hX
        by_cases ht : ds.getD q 0 = t
        · rw [if_pos ht] at hX; obtain rfl := Option.some.inj hX; rw [← ht]; exact h2 i rfl
        · rw [if_neg ht] at hX; exact base t X hX
    cases o1 with
    | none => exact base2 t X hX
    | some i =>
      simp only [Option.toList_some, List.map_cons, List.map_nil, List.cons_append, List.nil_append] at hX
      rw [find_cons] at hX
      by_cases ht : ds.getD p 0 = t
      · rw [if_pos ht] at hX; obtain rfl := Option.some.inj hX; rw [← ht]; exact h1 i rfl
      · rw [if_neg ht] at hX; exact base2 t X hX
  have main : ∀ (fuel : Nat) (listed : Array Bool) (a : Act) (w : World) (o1 : Option ι₁) (o2 : Option ι₂), listed.size = l.length → (∀ j, m ≤ j → listed.getD j false = false) → Down l (fun j => listed.getD j false = true) →
      l.length = fuel + ((List.range m).filter (fun j => listed.getD j false)).length → (o1.isSome = true ↔ listed.getD p false = true) → (o2.isSome = true ↔ listed.getD q false = true) → (∀ i, o1 = some i → c1 i) → (∀ i, o2 = some i → c2 i) →
      Inv n e G (SS o1 o2) ds Xs (fun j => j < m ∧ listed.getD j false = true) a w → (∀ i, o1 = some i → (X1 i).rep w (TT e (SS o1 o2)) (a.tmps.getD (ds.getD p 0) undef)) → (∀ i, o2 = some i → (X2 i).rep w (TT e (SS o1 o2)) (a.tmps.getD (ds.getD q 0) undef)) → wpAny P .any l.toArray Q fuel listed a w := by
    intro fuel
    induction fuel with
    | zero =>
      intro listed a w o1 o2 hls hhi hdown hcount ho1 ho2 hc1 hc2 hinv hx1 hx2
      have hle : ((List.range m).filter (fun j => listed.getD j false)).length ≤ m := by
        have := List.length_filter_le (fun j => listed.getD j false) (List.range m)
        simpa using this
      have hs : m = l.length := by omega
      have hall : ∀ j, j < m → listed.getD j false = true := by
        intro j hj
        have h1 : ((List.range m).filter (fun j => listed.getD j false)).length = (List.range m).length := by simp at hcount ⊢; omega
        have h2 := List.length_filter_eq_length_iff.1 h1
        exact h2 j (List.mem_range.2 hj)
      have hlm : ∀ j, listed.getD j false = true ↔ j < m := fun j => ⟨fun hj => Nat.lt_of_not_le (fun hmj => (by rw [hhi j hmj] at hj; cases hj)), hall j⟩
      refine tail 0 m listed a w (Nat.le_refl _) (by omega) (by omega) hls (fun j hj => ⟨fun _ => by omega, fun hj => hall j hj⟩) ?_
      exact h o1 o2 (ho1.trans (hlm p)) (ho2.trans (hlm q)) hc1 hc2 a w (hctx o1 o2 a w _ hall hinv hx1 hx2)
    | succ fuel ih =>
      intro listed a w o1 o2 hls hhi hdown hcount ho1 ho2 hc1 hc2 hinv hx1 hx2
      by_cases hall : ∀ j, j < m → listed.getD j false = true
      · have hfl : (List.range m).filter (fun j => listed.getD j false) = List.range m := List.filter_eq_self.2 (fun j hj => hall j (List.mem_range.1 hj))
        rw [hfl, List.length_range] at hcount
        have hlm : ∀ j, listed.getD j false = true ↔ j < m := fun j => ⟨fun hj => Nat.lt_of_not_le (fun hmj => (by rw [hhi j hmj] at hj; cases hj)), hall j⟩
        refine tail (fuel + 1) m listed a w (Nat.le_refl _) (by omega) (by omega) hls (fun j hj => ⟨fun h1 => (hlm j).1 h1, fun hj => hall j hj⟩) ?_
        exact h o1 o2 (ho1.trans (hlm p)) (ho2.trans (hlm q)) hc1 hc2 a w (hctx o1 o2 a w _ hall hinv hx1 hx2)
      · have hready : ∀ i, i ∈ Region.ready .any l.toArray listed → i < m ∧ listed.getD i false = false ∧ ∃ oi, l[i]? = some oi ∧ ∀ k, k ∈ direct oi → listed.getD k false = true := by
          intro i hi
          obtain ⟨h1, oi, ho, hal⟩ := mem_ready.1 hi
          have hoi : l[i]? = some oi := by simpa using ho
          have hil : i < l.length := (List.getElem?_eq_some_iff.1 hoi).1
          have h3 : listed.getD i false = false := listed_get (by rw [hls]; exact hil) h1
          have hdi : ∀ k', k' ∈ direct oi → listed.getD k' false = true := by
            intro k' hk'
            unfold direct at hk'
            obtain ⟨ed, he1, he2⟩ := List.mem_map.1 hk'
            rw [List.mem_filter] at he1
            rw [← he2]; exact hal ed (by simpa using he1.1) he1.2
          refine ⟨?_, h3, oi, hoi, hdi⟩
          by_cases his : i < m
          · exact his
          · exfalso
            apply hall
            intro j hj
            have ht := List.all_eq_true.1 htail i (List.mem_range.2 hil)
            simp only [Bool.or_eq_true, decide_eq_true_eq] at ht
            rcases ht with ht | ht
            · omega
            · exact bits_down hdown hlt i oi hoi hdi j (List.all_eq_true.1 ht j (List.mem_range.2 (by omega)))
        refine ⟨fun h0 => ?_, fun i hi => ?_⟩
        · exfalso
          obtain ⟨j, hj⟩ := Classical.not_forall.1 hall
          have hex : ∃ j, j < m ∧ listed.getD j false = false := ⟨j, by
            obtain ⟨h1, h2⟩ := Classical.not_imp.1 hj
            exact ⟨h1, by simpa using h2⟩⟩
          have hmin : ∃ j, (j < m ∧ listed.getD j false = false) ∧ ∀ k, k < j → listed.getD k false = true := by
            obtain ⟨j, hj1, hj2⟩ := hex
            induction j using Nat.strongRecOn with
            | _ j ihj =>
              by_cases hx : ∃ k, k < j ∧ listed.getD k false = false
              · obtain ⟨k, hk1, hk2⟩ := hx
                exact ihj k hk1 (by omega) hk2
              · exact ⟨j, ⟨hj1, hj2⟩, fun k hk => by
                  cases hv : listed.getD k false with
                  | true => rfl
                  | false => exact absurd ⟨k, hk, hv⟩ hx⟩
          obtain ⟨j, ⟨hj1, hj2⟩, hj3⟩ := hmin
          have hjl : j < l.length := by omega
          have : j ∈ Region.ready .any l.toArray listed := by
            refine mem_ready.2 ⟨?_, l[j], by simp [List.getElem?_eq_getElem hjl], ?_⟩
            · have : j < listed.size := by rw [hls]; exact hjl
              simp [this] at hj2 ⊢; exact hj2
            · intro ed he hb
              have hkd : ed.on ∈ direct l[j] := by unfold direct; exact List.mem_map.2 ⟨ed, List.mem_filter.2 ⟨by simpa using he, hb⟩, rfl⟩
              exact hj3 ed.on (hlt j l[j] (List.getElem?_eq_getElem hjl) ed.on hkd)
          rw [h0] at this; cases this
        · obtain ⟨his, hnl, oi, hoi, hdi⟩ := hready i hi
          have hko : l.toArray[i]? = some oi := by simpa using hoi
          have hil : i < listed.size := by rw [hls]; exact (List.getElem?_eq_some_iff.1 hoi).1
          have hclos := bits_down hdown hlt i oi hoi hdi
          have hdn' : Down l (fun j => (listed.setIfInBounds i true).getD j false = true) := by
            intro j o' ho' hj k hk
            by_cases hij : i = j
            · subst hij
              rw [hoi] at ho'; obtain rfl := Option.some.inj ho'
              have hki := hlt i oi hoi k hk
              show (listed.setIfInBounds i true).getD k false = true
              rw [getD_set_ne false (by omega)]; exact hdi k hk
            · have hj' : listed.getD j false = true := by
                have : (listed.setIfInBounds i true).getD j false = true := hj
                rwa [getD_set_ne false hij] at this
              exact getD_set_true (hdown j o' ho' hj' k hk)
          have hhi' : ∀ j, m ≤ j → (listed.setIfInBounds i true).getD j false = false := fun j hj => by rw [getD_set_ne false (by omega)]; exact hhi j hj
          have hct' : l.length = fuel + ((List.range m).filter (fun j => (listed.setIfInBounds i true).getD j false)).length := by rw [count_set hil (by omega) hnl]; omega
          have hloc : Holds n e (lctx G ds Xs l i) (SS o1 o2) a w := by
            refine ⟨hinv.base.size, hinv.base.defers, fun t Y hY => ?_, hinv.base.res, hinv.base.nodup, hinv.base.own, hinv.base.ext, hinv.base.glob⟩
            simp only [lctx, hoi] at hY
            obtain ⟨htm, hsrcY⟩ := lookCtx_find _ _ _ _ _ _ _ hY
            cases hso : srcOf ds ((bits l).getD i 0) t with
            | some j =>
              rw [hso] at hsrcY
              simp only at hsrcY
              have hp := List.find?_some hso
              simp only [Bool.and_eq_true, beq_iff_eq] at hp
              have hjr := List.mem_of_find?_eq_some hso
              rw [← hp.1]
              exact hinv.done j Y ⟨by rw [List.mem_range] at hjr; omega, hclos j hp.2⟩ hsrcY
            | none =>
              rw [hso] at hsrcY
              simp only at hsrcY
              refine hinv.old t Y hsrcY (fun j hj hjl hjt => ?_)
              have h8 := List.all_eq_true.1 hsrc i (List.mem_range.2 (by omega))
              simp only [srcOk, hoi] at h8
              have h9 := List.all_eq_true.1 h8 t htm
              rw [hso] at h9
              simp only [Option.isSome_none, Bool.false_or] at h9
              have h10 := List.all_eq_true.1 h9 j (List.mem_range.2 hjl)
              simp only [hjt, beq_self_eq_true, Bool.not_true, Bool.false_or] at h10
              have hjl' : j < l.length := by omega
              have hoj : l[j]? = some l[j] := List.getElem?_eq_getElem hjl'
              have := bits_down hdown hlt j l[j] hoj (fun k hk => hdown j l[j] hoj hj.2 k hk) i h10
              rw [hnl] at this; cases this
          by_cases hE0 : i = p
          · -- the first effect
            subst hE0
            have hno := hgp oi hoi
            have hon : o1 = none := by cases ho : o1 with | none => rfl | some i => rw [ho] at ho1; have := ho1.1 rfl; rw [hnl] at this; cases this
            subst hon
            unfold wpOp
            simp only [hko]
            have hwn : Region.wanted oi (yielded l.toArray a.tmps) = true := by simp [Region.wanted, hno]
            rw [if_pos hwn]
            refine .inl (hE1 o2 oi hoi a w hloc _ _ fun i0 v w' hci hw' hv hk => ?_)
            have hdi' := hdlt i his
            rw [hdst i oi his hoi]
            have hput := hw'.put (v := v) (d := ds.getD i 0) hv hdi'
            have hbase : Holds n e [] (SS (some i0) o2) (a.put (some (ds.getD i 0)) v) w' := ⟨hput.size, hput.defers, fun t X h => (by simp [find] at h), hput.res, hput.nodup, hput.own, hput.ext, hput.glob⟩
            refine ih _ _ _ (some i0) o2 (by simpa using hls) hhi' hdn' hct' ⟨fun _ => getD_set_self hil, fun _ => rfl⟩ (by rw [getD_set_ne false hpq']; exact ho2) (fun i hi => by obtain rfl := Option.some.inj hi; exact hci) hc2 ⟨hbase, fun j Y hj hY => ?_, fun t Y hY hn => ?_⟩
              (fun i hi => by obtain rfl := Option.some.inj hi; rw [put_getD_same _ _ _ (by rw [hinv.base.size]; exact hdi')]; exact hv)
              (fun i' hi => by have hqm : q < m := Nat.lt_of_not_le fun hmq => (by have := ho2.1 (by rw [hi]; rfl); rw [hhi q hmq] at this; cases this); rw [put_getD_ne _ _ _ _ (hdne i q his hqm hpq')]; exact (X2 i').mono (hx2 i' hi) hk)
            · by_cases hij : i = j
              · subst hij
                rw [hXp his] at hY; obtain rfl := Option.some.inj hY
                trivial
              · have hj2 : listed.getD j false = true := by have := hj.2; rwa [getD_set_ne false hij] at this
                rw [put_getD_ne _ _ _ _ (hdne i j his hj.1 hij)]
                exact Y.mono (hinv.done j Y ⟨hj.1, hj2⟩ hY) hk
            · have hit : ds.getD i 0 ≠ t := hn i ⟨his, getD_set_self hil⟩ (by omega)
              rw [put_getD_ne _ _ _ _ hit]
              exact Y.mono (hinv.old t Y hY (fun j hj hjl => hn j ⟨hj.1, getD_set_true hj.2⟩ hjl)) hk
          · by_cases hE1' : i = q
            · -- the second
              subst hE1'
              have hno := hgq oi hoi
              have hon : o2 = none := by cases ho : o2 with | none => rfl | some i => rw [ho] at ho2; have := ho2.1 rfl; rw [hnl] at this; cases this
              subst hon
              unfold wpOp
              simp only [hko]
              have hwn : Region.wanted oi (yielded l.toArray a.tmps) = true := by simp [Region.wanted, hno]
              rw [if_pos hwn]
              refine .inl (hE2 o1 oi hoi a w hloc _ _ fun i0 v w' hci hw' hv hk => ?_)
              have hdi' := hdlt i his
              rw [hdst i oi his hoi]
              have hput := hw'.put (v := v) (d := ds.getD i 0) hv hdi'
              have hbase : Holds n e [] (SS o1 (some i0)) (a.put (some (ds.getD i 0)) v) w' := ⟨hput.size, hput.defers, fun t X h => (by simp [find] at h), hput.res, hput.nodup, hput.own, hput.ext, hput.glob⟩
              refine ih _ _ _ o1 (some i0) (by simpa using hls) hhi' hdn' hct' (by rw [getD_set_ne false hpq'.symm]; exact ho1) ⟨fun _ => getD_set_self hil, fun _ => rfl⟩ hc1 (fun i hi => by obtain rfl := Option.some.inj hi; exact hci) ⟨hbase, fun j Y hj hY => ?_, fun t Y hY hn => ?_⟩
                (fun i' hi => by have hqm : p < m := Nat.lt_of_not_le fun hmq => (by have := ho1.1 (by rw [hi]; rfl); rw [hhi p hmq] at this; cases this); rw [put_getD_ne _ _ _ _ (hdne i p his hqm hpq'.symm)]; exact (X1 i').mono (hx1 i' hi) hk)
                (fun i hi => by obtain rfl := Option.some.inj hi; rw [put_getD_same _ _ _ (by rw [hinv.base.size]; exact hdi')]; exact hv)
              · by_cases hij : i = j
                · subst hij
                  rw [hXq his] at hY; obtain rfl := Option.some.inj hY
                  trivial
                · have hj2 : listed.getD j false = true := by have := hj.2; rwa [getD_set_ne false hij] at this
                  rw [put_getD_ne _ _ _ _ (hdne i j his hj.1 hij)]
                  exact Y.mono (hinv.done j Y ⟨hj.1, hj2⟩ hY) hk
              · have hit : ds.getD i 0 ≠ t := hn i ⟨his, getD_set_self hil⟩ (by omega)
                rw [put_getD_ne _ _ _ _ hit]
                exact Y.mono (hinv.old t Y hY (fun j hj hjl => hn j ⟨hj.1, getD_set_true hj.2⟩ hjl)) hk
            · skip
              have hoi2 : (l.take m)[i]? = some oi := by rw [List.getElem?_take, if_pos his]; exact hoi
              have hX : Xs[i]? = some Xs[i] := List.getElem?_eq_getElem (by omega)
              generalize Xs[i] = X at hX
              have hnb1 : Nat.beq i p = false := by cases hb : Nat.beq i p with | false => rfl | true => exact absurd (Nat.eq_of_beq_eq_true hb) hE0
              have hnb2 : Nat.beq i q = false := by cases hb : Nat.beq i q with | false => rfl | true => exact absurd (Nat.eq_of_beq_eq_true hb) hE1'
              have hqs := hget o1 o2 i oi X hoi2 hX (by
                rw [hsk, List.getElem?_map, List.getElem?_range his]
                simp only [Option.map_some, hnb1, hnb2, Bool.or_self])
              rw [Nat.zero_add] at hqs
              have hdi' := hdlt i his
              have hrun := hqs a w hloc (wpAny P .any l.toArray Q fuel (listed.setIfInBounds i true)) Q (fun v w' hx hv => by
                rw [hdst i oi his hoi]
                have hbase := (hinv.base.quiet hx hv hdi')
                have hk : Keeps w (TT e (SS o1 o2)) w' (TT e (SS o1 o2)) := hx.keeps (by simp) (fun _ _ h => h)
                refine ih _ _ _ o1 o2 (by simpa using hls) hhi' hdn' hct' (by rw [getD_set_ne false hE0]; exact ho1) (by rw [getD_set_ne false hE1']; exact ho2) hc1 hc2 ⟨⟨hbase.size, hbase.defers, fun t X h => (by simp [find] at h), hbase.res, hbase.nodup, hbase.own, hbase.ext, hbase.glob⟩, ?_, ?_⟩
                  (fun i' hi => by have hqm : p < m := Nat.lt_of_not_le fun hmq => (by have := ho1.1 (by rw [hi]; rfl); rw [hhi p hmq] at this; cases this); rw [put_getD_ne _ _ _ _ (hdne i p his hqm hE0)]; exact (X1 i').mono (hx1 i' hi) hk)
                  (fun i' hi => by have hqm : q < m := Nat.lt_of_not_le fun hmq => (by have := ho2.1 (by rw [hi]; rfl); rw [hhi q hmq] at this; cases this); rw [put_getD_ne _ _ _ _ (hdne i q his hqm hE1')]; exact (X2 i').mono (hx2 i' hi) hk)
                · intro j Y hj hY
                  by_cases hij : i = j
                  · subst hij
                    rw [hX] at hY; obtain rfl := Option.some.inj hY
                    rw [put_getD_same _ _ _ (by rw [hinv.base.size]; exact hdi')]
                    exact hv
                  · have hj2 : listed.getD j false = true := by have := hj.2; rwa [getD_set_ne false hij] at this
                    rw [put_getD_ne _ _ _ _ (hdne i j his hj.1 hij)]
                    exact Y.mono (hinv.done j Y ⟨hj.1, hj2⟩ hY) hk
                · intro t Y hY hn
                  have hit : ds.getD i 0 ≠ t := hn i ⟨his, getD_set_self hil⟩ (by omega)
                  rw [put_getD_ne _ _ _ _ hit]
                  exact Y.mono (hinv.old t Y hY (fun j hj hjl => hn j ⟨hj.1, getD_set_true hj.2⟩ hjl)) hk)
              unfold wpOp
              simp only [hko]
              split
              · rename_i hwn; rw [if_pos hwn] at hrun; exact .inl hrun
              · rename_i hwn; rw [if_neg hwn] at hrun; exact hrun
  refine wp_region_any hm ?_
  subst hS
  have hh' := hh.drew
  have hl0 : ∀ j, (Array.replicate l.toArray.size false).getD j false = false := by intro j; simp [Array.getD]
  refine main _ _ _ _ none none (by simp) (fun j _ => hl0 j) (fun i o _ h => absurd h (by simp only [hl0]; simp)) ?_ (by rw [hl0]; simp) (by rw [hl0]; simp) (fun i h => by cases h) (fun i h => by cases h) ?_ (fun i h => by cases h) (fun i h => by cases h)
  · have : (List.range m).filter (fun j => (Array.replicate l.toArray.size false).getD j false) = [] := List.filter_eq_nil_iff.2 (fun j _ => by rw [hl0]; simp)
    rw [this]; simp
  · exact ⟨⟨hh'.size, hh'.defers, fun t X h => (by simp [find] at h), hh'.res, hh'.nodup, hh'.own, hh'.ext, hh'.glob⟩, fun j X h => absurd h.2 (by simp only [hl0]; simp), fun t X hX _ => hh'.slots t X hX⟩
end
end Go.Sep
namespace Go.Sep
open Go
open Enc (V)
def Emp : VP := ⟨fun _ _ v => ∃ a : Option Nat, v = .slice (a.map fun g : Nat => (⟨g, 0, none⟩ : Addr)) 0 0, fun h _ => h⟩
section
variable {P : Program} {n : Nat} {e : Env P} {G : Ctx} {S S' S'' : List Res} {Q : Exit → Act → World → Prop} {a : Act} {w : World}
variable {α : Type} [Enc α] {d : Option Tmp} {dd : Nat} {t tn : TypeId} {x y hi : Operand} {ty : TypeId} {pos : String} {af : Array Edge} {g : Option (Nat × Bool)} {ops : Array Oper} {rest : List Oper}
def KeepsV (w : World) (T : Nat → Prop) : VP := ⟨fun w' T' _ => Keeps w T w' T', fun h hk b hb ht => by
  obtain ⟨a1, a2, a3⟩ := Keeps.get h hb ht
  obtain ⟨c1, c2, c3⟩ := Keeps.get hk a2 a1
  exact ⟨c1, c3.trans a3⟩⟩
theorem Holds.keepsV (hh : Holds n e G S a w) : Holds n e [(0, KeepsV w (TT e S))] S a w := ⟨hh.size, hh.defers, fun t X hX => by
    rw [find_cons] at hX
    by_cases h0 : 0 = t
    · rw [if_pos h0] at hX; obtain rfl := Option.some.inj hX; exact (Ext.refl [] w).keeps (by simp) (fun _ _ h => h)
    · rw [if_neg h0] at hX; simp [find] at hX, hh.res, hh.nodup, hh.own, hh.ext, hh.glob⟩
theorem Holds.none0 (h : Holds n e G S a w) : Holds n e [] S a w := ⟨h.size, h.defers, fun t X hX => (by simp [find] at hX), h.res, h.nodup, h.own, h.ext, h.glob⟩
theorem E_callI {f : FuncId} {xs : List Operand} {Xs : List VP} {Sc B : List Res} {ι : Type} {c : ι → Prop} {R : ι → VP} {S2 : ι → List Res} {ats : Array TypeId} (hc : Fn P f Xs Sc c R S2) (ha : Ats G xs Xs) (hs : Split S Sc B) {S1 : ι → List Res} (hp : ∀ i, (S2 i ++ B).Perm (S1 i)) :
    ∀ a w, Holds n e G S a w → ∀ (K : Act → World → Prop) (Q : Exit → Act → World → Prop), (∀ i v w', c i → Holds n e [] (S1 i) a w' → (R i).rep w' (TT e (S1 i)) v → Keeps w (TT e S) w' (TT e (S1 i)) → K (a.put (some dd) v) w') →
      (⟨some dd, .call ⟨.value (.func f), xs.toArray, ats⟩, ty, pos, af, none⟩ : Oper).wp P a w K Q := by
  intro a w hh K Q hK
  unfold Oper.wp
  have hex : (execOp a.eval ⟨some dd, .call ⟨.value (.func f), xs.toArray, ats⟩, ty, pos, af, none⟩).run P w = .ok (.enter f (xs.map a.eval).toArray) w := by
    have : execOp a.eval ⟨some dd, .call ⟨.value (.func f), xs.toArray, ats⟩, ty, pos, af, none⟩ = callFunc f (#[] ++ xs.toArray.map a.eval ++ #[]) := rfl
    rw [this, run_callFunc hc.1]
    simp
  rw [hex, Oper.upon_enter]
  refine (call_core hc hs hh.keepsV (ats_args ha hh)).mono ?_
  rintro ex w' ⟨i, v, hci, rfl, hh', hR⟩
  have hk : Keeps w (TT e S) w' (TT e (S2 i ++ B)) := hh'.slots 0 _ rfl
  have hT := TT_perm (e := e) (hp i)
  rw [hT] at hk hR
  exact hK i v w' hci (hh'.perm (hp i)).none0 hR hk
theorem E_alloc {z : α} (hz : GoZ P t z) {S1 : Nat → List Res} (hp : ∀ b, (BoxR t b z :: S).Perm (S1 b)) :
    ∀ a w, Holds n e G S a w → ∀ (K : Act → World → Prop) (Q : Exit → Act → World → Prop), (∀ b v w', True → Holds n e [] (S1 b) a w' → (Ptr b 0).rep w' (TT e (S1 b)) v → Keeps w (TT e S) w' (TT e (S1 b)) → K (a.put (some dd) v) w') →
      (⟨some dd, .alloc t, ty, pos, af, none⟩ : Oper).wp P a w K Q := by
  intro a w hh K Q hK
  obtain ⟨v, hv, hz⟩ := hz
  obtain ⟨l, hl, rfl⟩ := Enc.ofV (hz w (TT e S))
  unfold Oper.wp
  have hex : (execOp a.eval ⟨some dd, .alloc t, ty, pos, af, none⟩).run P w = .ok (.value (.pointer (some ⟨w.heap.size, 0, none⟩))) (w.alloc (.cells l.toArray t)) := by
    simp [execOp, Instr.alloc, run_zero hv, newVar, newRow, cells_ofCells hl]
  rw [hex]
  have hh' := holds_newbox (t := t) hh.keepsV hl
  have hk : Keeps w (TT e S) (w.alloc (.cells l.toArray t)) (TT e (BoxR t w.heap.size z :: S)) := hh'.slots 0 _ rfl
  have hT := TT_perm (e := e) (hp w.heap.size)
  rw [hT] at hk
  exact hK w.heap.size _ _ trivial (hh'.perm (hp _)).none0 rfl hk
theorem Q_buildEmp {el : TypeId} {by_ : Nat} (hE : GoEl P el α by_) (ht : P.underlying t = some (.slice el)) : Quiet P n e G S ⟨d, .buildSlice t 0 #[], ty, pos, af, g⟩ Emp :=
  Q_of_run fun a w hh => by
    have hrun := run_buildSlice_dense (P := P) (α := α) (n := n) (e := e) (G := G) (S := S) (a := a) (w := w) hE ht (parts := #[]) (len := 0) (os := []) (zs := []) (by simp) rfl trivial (by simp) hh
    have hex : (execOp a.eval ⟨d, .buildSlice t 0 #[], ty, pos, af, g⟩).run P w = .ok (.value (.slice (some ⟨w.heap.size, 0, none⟩) 0 0)) (w.alloc (.cells #[] el)) := by
      simp only [execOp, Sem.run_bind, hrun, Result.andThen_ok, Sem.run_pure]
      simp
    exact ⟨_, _, hex, Ext.alloc _ _ _, ⟨some w.heap.size, rfl⟩⟩
def RowE (el : TypeId) (v : Value) (l : List α) : Res where
  foot := if l.isEmpty then [] else v.ownBlock.toList
  holds w T := if l.isEmpty then (∃ a : Option Nat, v = .slice (a.map fun g : Nat => (⟨g, 0, none⟩ : Addr)) 0 0) else (RowR el v l).holds w T
  lt := fun {w T} h b hb => by
    cases hl : l.isEmpty with
    | true => rw [hl] at hb; simp at hb
    | false => rw [hl] at hb h; simp only [Bool.false_eq_true, if_false] at hb h; exact (RowR el v l).lt h b hb
  mono := fun {w T w' T'} h h1 h2 => by
    cases hl : l.isEmpty with
    | true => rw [hl] at h; simpa using h
    | false => rw [hl] at h h1; simp only [Bool.false_eq_true, if_false] at h h1 ⊢; exact (RowR el v l).mono h h1 h2
theorem run_append_emp {el by_ : Nat} (hE : GoEl P el α by_) (ht : P.underlying t = some (.slice el)) (w : World) (ao : Option Nat) (ad : Addr) (m c : Nat) (hm : 0 < m) (news : List Value) (hl : news.length = m * Enc.size α) (hnews : ∀ j u, news[j]? = some u → w.cell? (ad.add j) = some u) (h1 : ∀ u, u ∈ news → u.oneCell' = true)
    (h63 : m ≤ maxLen) (hbytes : m * by_ ≤ 140737488355328) :
    ∃ v' w', (Builtin.append_ #[t, t] ty #[.slice (ao.map fun g : Nat => (⟨g, 0, none⟩ : Addr)) 0 0, .slice (some ad) m c]).run P w = .ok v' w' ∧ w'.ownsRow 0 el (Enc.size α) v' m news ∧ w.grownBy w' none ∧ (∀ b, v'.ownBlock = some b → w.heap.size ≤ b) := by
  cases ao with
  | none =>
    have hown : w.ownsRow 0 el (Enc.size α) (.slice none 0 0) 0 [] := ⟨by simp, .inl ⟨rfl, rfl⟩⟩
    obtain ⟨v', w', a1, a2, a3, a4⟩ := run_append_row (ty := ty) hE ht hown ad m c news hl hnews h1 (by simpa using h63) (by simpa using hbytes)
    refine ⟨v', w', a1, by simpa using a2, a3, fun b hb => ?_⟩
    rcases a4 b hb with q | q
    · cases q
    · exact q
  | some gb =>
    obtain ⟨i, z, hi, hz, hs, hb, hzs⟩ := hE.parts
    have hrun := run_append_grow (P := P) w t ty el i z ht hi hz ⟨gb, 0, none⟩ 0 0 [] (by simp) (by simp) ad m c news (by rw [hs]; exact hl) hnews (by omega) (by simp only [maxLen] at h63; omega) (by rw [hb]; exact growslice_fits (by omega) (by simpa using hbytes))
    have hge := grownCap_ge w (0 + m) 0 el
    have hle := grownCap_le_maxLen w (0 + m) 0 el (by omega)
    refine ⟨_, _, hrun, ?_, ⟨rfl, rfl, rfl, by simp, fun k hk _ => (Ext.alloc [] w.drew _).block k hk (by simp)⟩, fun b hb => ?_⟩
    · have hn := heap_alloc_new w.drew (.cells (([] : List Value).toArray ++ news.toArray ++ Builtin.zeroCells z.cells (grownCap w (0 + m) 0 el - (0 + m))) el)
      rw [Nat.zero_add] at hn hge hle ⊢
      refine ⟨hl, .inr ⟨w.heap.size, _, _, rfl, Nat.zero_le _, hn, hge, hle, ?_, ?_⟩⟩
      · simp only [Array.size_append, List.size_toArray, List.length_nil, Nat.zero_add, size_zeroCells, hzs, hl, ← Nat.add_mul]
        congr 1; omega
      · simp only [Array.toList_append, List.nil_append]
        rw [← hl, List.take_left']
        rfl
    · simp [Value.ownBlock] at hb; omega
theorem E_appendEmp {el by_ : Nat} {l2 : List α} (hE : GoEl P el α by_) (ht : P.underlying t = some (.slice el)) (hx : At G x Emp) (hy : At G y (Sl l2)) (hb : l2.length * by_ ≤ 140737488355328) (hl : l2.length ≤ maxLen) {S1 : Value → List Res} (hp : ∀ v, (RowE el v l2 :: S).Perm (S1 v)) :
    ∀ a w, Holds n e G S a w → ∀ (K : Act → World → Prop) (Q : Exit → Act → World → Prop), (∀ u v w', True → Holds n e [] (S1 u) a w' → (Is u).rep w' (TT e (S1 u)) v → Keeps w (TT e S) w' (TT e (S1 u)) → K (a.put (some dd) v) w') →
      (⟨some dd, .call ⟨.builtin .append, #[x, y], #[t, t]⟩, ty, pos, af, none⟩ : Oper).wp P a w K Q := by
  intro a w hh K Q hK
  obtain ⟨ao, e1⟩ := hx.rep hh
  obtain ⟨ad, c, ys, k1, k2, k3, k4, k5, k6⟩ := hy.rep hh
  unfold Oper.wp
  have fin : ∀ v' w', (Builtin.append_ #[t, t] ty #[a.eval x, a.eval y]).run P w = .ok v' w' → Ext [] w w' → (∀ b, b ∈ (RowE el v' l2).foot → w.heap.size ≤ b) → (RowE el v' l2).foot.Nodup → (RowE el v' l2).holds w' (TT e (RowE el v' l2 :: S)) →
      (execOp a.eval ⟨some dd, .call ⟨.builtin .append, #[x, y], #[t, t]⟩, ty, pos, af, none⟩ |>.run P w) = .ok (.value v') w' ∧ Holds n e [(0, KeepsV w (TT e S))] (RowE el v' l2 :: S) a w' := by
    intro v' w' hrun hx h1 h2 h3
    refine ⟨by simp only [execOp, resolve, invoke, builtin, Sem.run_bind, Sem.run_pure, Result.andThen_ok, List.map_toArray, List.map_cons, List.map_nil, hrun], hh.keepsV.new hx h1 h2 h3⟩
  have go : ∀ v' w', (execOp a.eval ⟨some dd, .call ⟨.builtin .append, #[x, y], #[t, t]⟩, ty, pos, af, none⟩ |>.run P w) = .ok (.value v') w' → Holds n e [(0, KeepsV w (TT e S))] (RowE el v' l2 :: S) a w' →
      (match (execOp a.eval ⟨some dd, .call ⟨.builtin .append, #[x, y], #[t, t]⟩, ty, pos, af, none⟩).run P w with | r => r = .ok (.value v') w') ∧ K (a.put (some dd) v') w' := by
    intro v' w' hex hh'
    refine ⟨hex, ?_⟩
    have hk : Keeps w (TT e S) w' (TT e (RowE el v' l2 :: S)) := hh'.slots 0 _ rfl
    rw [TT_perm (e := e) (hp v')] at hk
    exact hK v' v' w' trivial (hh'.perm (hp v')).none0 rfl hk
  by_cases hn0 : l2 = []
  · subst hn0
    obtain rfl : ys = [] := k5
    obtain ⟨i, z, hi, hz, hsz, hbt, hzs⟩ := hE.parts
    have hrun : (Builtin.append_ #[t, t] ty #[a.eval x, a.eval y]).run P w = .ok (a.eval x) w := by
      rw [e1, k1]
      cases ao with
      | none =>
        cases ad with
        | none => simp [Builtin.append_, run_underlying ht, sizeOf, typeInfo, hi, Builtin.lenOf, Builtin.firstCells, storeCells]
        | some ad =>
          have hf := run_firstCells_some (P := P) w i.size 0 ad 0 c [] (by simp) (by simp)
          simp [Builtin.append_, run_underlying ht, sizeOf, typeInfo, hi, Builtin.lenOf, hf, storeCells]
      | some gb =>
        cases ad with
        | none => simp [Builtin.append_, run_underlying ht, sizeOf, typeInfo, hi, Builtin.lenOf, Builtin.firstCells, storeCells]
        | some ad =>
          have hf := run_firstCells_some (P := P) w i.size 0 ad 0 c [] (by simp) (by simp)
          simp [Builtin.append_, run_underlying ht, sizeOf, typeInfo, hi, Builtin.lenOf, hf, storeCells]
    obtain ⟨q1, q2⟩ := fin _ _ hrun (Ext.refl _ _) (by simp [RowE]) (by simp [RowE]) (by simp [RowE]; exact ⟨ao, e1⟩)
    obtain ⟨q3, q4⟩ := go _ _ q1 q2
    rw [q1]
    exact q4
  · obtain ⟨gy, off, rfl, _, _, hr⟩ := k6 hn0
    have hpos : 0 < l2.length := List.length_pos_iff.2 hn0
    have hne : l2.isEmpty = false := by cases l2 with | nil => exact absurd rfl hn0 | cons _ _ => rfl
    obtain ⟨v', w', hrun, o1, o2, o3⟩ := run_append_emp (ty := ty) hE ht w ao ⟨gy, off, none⟩ l2.length c hpos ys (cpl_len k5) hr.add (cpl_one k5) hl hb
    rw [← e1, ← k1] at hrun
    have hext : Ext [] w w' := ⟨o2.os, o2.tape, o2.output, o2.size, fun b hb _ => o2.block b hb (by simp)⟩
    obtain ⟨q1, q2⟩ := fin _ _ hrun hext (by intro b hb; simp [RowE, hne] at hb; exact o3 b hb) (by simp [RowE, hne]; cases v'.ownBlock <;> simp) (by
      show (if l2.isEmpty then _ else _)
      rw [hne]
      refine ⟨ys, o1, (cpl l2).mono k5 (hext.keeps (by simp) ?_)⟩
      intro b hb hnt ht
      rcases ht with ht | ht
      · exact hnt (.inl ht)
      · rw [feet_cons] at ht
        rcases List.mem_append.1 ht with ht | ht
        · simp [RowE, hne] at ht
          have := o3 b ht; omega
        · exact hnt (.inr ht))
    obtain ⟨q3, q4⟩ := go _ _ q1 q2
    rw [q1]
    exact q4
theorem J_appendE {el by_ : Nat} {v : Value} {l l2 : List α} (hE : GoEl P el α by_) (ht : P.underlying t = some (.slice el)) (hs : At G x (Is v)) (hx : At G y (Sl l2)) (hm : Repl S (RowE el v l) [] S') (hn0 : 0 < l2.length)
    (hb : (l.length + l2.length) * by_ ≤ 140737488355328) (hl : l.length + l2.length ≤ maxLen) (hlt : Nat.blt dd n = true)
    (h : ∀ v', J n e ((dd, Is v') :: G) (RowR el v' (l ++ l2) :: S') (wpList P ops Q rest)) :
    J n e G S (wpList P ops Q (⟨some dd, .call ⟨.builtin .append, #[x, y], #[t, t]⟩, ty, pos, af, none⟩ :: rest)) := by
  cases hle : l.isEmpty with
  | false =>
    have hRE : RowE el v l = RowR el v l := by
      unfold RowE RowR
      simp only [hle]
      congr
    rw [hRE] at hm
    exact J_append hE ht hs hx hm hb hl hlt h
  | true =>
    obtain rfl : l = [] := List.isEmpty_iff.1 hle
    intro a w hh
    have hlt' : dd < n := by simpa [Nat.blt_eq] using hlt
    have e0 : a.eval x = v := hs.rep hh
    obtain ⟨ao, e1⟩ : ∃ ao : Option Nat, v = .slice (ao.map fun g : Nat => (⟨g, 0, none⟩ : Addr)) 0 0 := by have := hh.res _ hm.mem; simpa [RowE] using this
    obtain ⟨ad, c, ys, k1, k2, k3, k4, k5, k6⟩ := hx.rep hh
    obtain ⟨gy, off, rfl, _, _, hr⟩ := k6 (List.length_pos_iff.1 hn0)
    refine wpList_plain rfl fun K hK => ?_
    obtain ⟨v', w', hrun, o1, o2, o3⟩ := run_append_emp (ty := ty) hE ht w ao ⟨gy, off, none⟩ l2.length c hn0 ys (cpl_len k5) hr.add (cpl_one k5) (by simpa using hl) (by simpa using hb)
    rw [← e1, ← e0, ← k1] at hrun
    unfold Oper.wp
    have hex : (execOp a.eval ⟨some dd, .call ⟨.builtin .append, #[x, y], #[t, t]⟩, ty, pos, af, none⟩).run P w = .ok (.value v') w' := by
      simp only [execOp, resolve, invoke, builtin, Sem.run_bind, Sem.run_pure, Result.andThen_ok, List.map_toArray, List.map_cons, List.map_nil, hrun]
    rw [hex]
    have hext : Ext [] w w' := ⟨o2.os, o2.tape, o2.output, o2.size, fun b hb _ => o2.block b hb (by simp)⟩
    have hlo := hh.lose hm
    refine hK _ _ (h v' _ _ ((hlo.new (r := RowR el v' l2) hext (by intro b hb; simp [RowR] at hb; exact o3 b hb) (by simp [RowR]; cases v'.ownBlock <;> simp) ?_).put rfl hlt'))
    refine ⟨ys, o1, ?_⟩
    have hcp : (cpl l2).rep w (TT e S') ys := (cpl l2).mono k5 (fun c hc ht => ⟨fun h => ht (by
      obtain ⟨A, B, f1, f2⟩ := hm
      rw [f1]
      rcases h with h | h
      · exact .inl h
      · rw [f2] at h; refine .inr ?_; simp at h ⊢; rcases h with h | h <;> simp [h]), rfl⟩)
    refine (cpl l2).mono hcp (hext.keeps (by simp) ?_)
    intro b hb hnt ht
    rcases ht with ht | ht
    · exact hnt (.inl ht)
    · rw [feet_cons] at ht
      rcases List.mem_append.1 ht with ht | ht
      · simp [RowR] at ht
        have := o3 b ht; omega
      · exact hnt (.inr ht)
end
end Go.Sep
namespace Go.Sep
open Go
open Enc (V)
section
variable {P : Program} {n : Nat} {e : Env P} {G : Ctx} {S S' S'' : List Res} {Q : Exit → Act → World → Prop}
variable {d : Option Tmp} {dd : Nat} {t tn : TypeId} {x y hi : Operand} {ty : TypeId} {pos : String} {af : Array Edge} {g : Option (Nat × Bool)} {ops : Array Oper} {rest : List Oper}
theorem heap_modify {w : World} {gb : Nat} {o o' : Obj} (h : w.heap[gb]? = some o) (f : Obj → Obj) (hf : f o = o') : (w.heap.modify gb f)[gb]? = some o' ∧ ∀ b, b ≠ gb → (w.heap.modify gb f)[b]? = w.heap[b]? := by
  obtain ⟨hlt, he⟩ := Array.getElem?_eq_some_iff.1 h
  constructor
  · rw [Array.getElem?_modify, if_pos rfl, h, ← hf]; rfl
  · intro b hb; rw [Array.getElem?_modify, if_neg (fun e => hb e.symm)]
theorem J_convR {el : TypeId} {v : Value} {l : Bytes} (hd : P.underlying t = some (.slice el)) (he : P.underlying el = some (.int .u8)) (hx : At G x (Is v)) (hm : Repl S (RowR el v l) [] S') (hn0 : l ≠ []) (hlt : Nat.blt dd n = true)
    (h : J n e ((dd, Is v) :: G) (RowM el v l :: S') (wpList P ops Q rest)) : J n e G S (wpList P ops Q (⟨some dd, .convert t t x, ty, pos, af, none⟩ :: rest)) := by
  intro a w hh
  have hlt' : dd < n := by simpa [Nat.blt_eq] using hlt
  refine wpList_plain rfl fun K hK => ?_
  have h1 : a.eval x = v := hx.rep hh
  obtain ⟨xs, ⟨o1, o2⟩, o3⟩ := hh.res _ hm.mem
  obtain rfl := cpl_u8 o3
  rcases o2 with ⟨_, o2⟩ | ⟨gb, cap, cur, rfl, _, o4, o5, o6, o7, o8⟩
  · exact absurd (List.eq_nil_of_length_eq_zero o2) hn0
  have hw : w.freeze ⟨gb, cur.size, none⟩ 1 = { w with heap := w.heap.modify gb fun
      | .cells c elem (lo, hi) => .cells c elem (if lo == hi then (cur.size, cur.size + 1) else (min lo cur.size, max hi (cur.size + 1)))
      | o => o } := rfl
  obtain ⟨m1, m2⟩ := heap_modify o4 (fun
      | .cells c elem (lo, hi) => .cells c elem (if lo == hi then (cur.size, cur.size + 1) else (min lo cur.size, max hi (cur.size + 1)))
      | o => o) (o' := .cells cur el (cur.size, cur.size + 1)) rfl
  have hsh : w.shape? gb = some (el, cur.size) := by unfold World.shape?; rw [o4]
  unfold Oper.wp
  have hex : (execOp a.eval ⟨some dd, .convert t t x, ty, pos, af, none⟩).run P w = .ok (.value (.slice (some ⟨gb, 0, none⟩) l.length cap)) (w.freeze ⟨gb, cur.size, none⟩ 1) := by
    simp [execOp, h1, convert, run_underlying hd, run_underlying he, markStringish, hsh]
  rw [hex]
  have hext : Ext [gb] w (w.freeze ⟨gb, cur.size, none⟩ 1) := by
    rw [hw]
    exact ⟨rfl, rfl, rfl, by simp, fun b _ hb => m2 b (by simpa using hb)⟩
  refine hK _ _ (h _ _ ((Holds.swapRow (r' := RowM el (.slice (some ⟨gb, 0, none⟩) l.length cap) l) hh hm (by simpa [RowR, Value.ownBlock] using hext) (by intro b hb; exact .inl (by simpa [RowR, RowM, Value.ownBlock] using hb)) (by simp [RowM, Value.ownBlock]) ?_).put rfl hlt'))
  intro _
  refine ⟨gb, cap, cur, _, rfl, by rw [hw]; exact m1, .inr (Nat.le_refl _), o5, o6, by simpa [Enc.size] using o7, by simpa [Enc.size] using o8⟩
theorem Fn.vex {f : FuncId} {Xs : List VP} {ι : Type} {c : ι → Prop} {R : ι → VP} (h : Fn P f Xs [] c R (fun _ => [])) : FnP P f Xs (VEx c R) :=
  ⟨h.1, fun w T vs h1 h2 h3 h4 h5 h6 => (h.2 w T vs h1 h2 h3 h4 h5 h6).mono fun ex w' ⟨i, v, a1, a2, a3, a4, a5, a6, a7⟩ => ⟨(), v, trivial, a2, a3, a4, a5, ⟨i, a1, a6⟩, a7⟩⟩
section
variable {κ β : Type} [Enc κ] [DecidableEq κ] [Enc β]
theorem Fn.mapTo {f : FuncId} {Xs : List VP} {c : Nat × List (κ × β) → Prop} (h : Fn P f Xs [] c (fun q => MapP q.1) (fun q => [MapR q.1 q.2])) : FnP P f Xs (VEx (fun m => ∃ b, c (b, m)) MapTo) :=
  ⟨h.1, fun w T vs h1 h2 h3 h4 h5 h6 => (h.2 w T vs h1 h2 h3 h4 h5 h6).mono fun ex w' ⟨⟨b, m⟩, v, a1, a2, a3, a4, a5, a6, a7⟩ => by
    obtain rfl : v = .map (some b) := a6
    obtain ⟨es, cl, e4, e5, _⟩ := a7 (MapR b m) (by simp)
    have hb : w.heap.size ≤ b := by have := a5 b (by simp [MapR]); simpa using this
    have hT : ∀ c, TA T [] [] c → T c := fun c hc => by rcases hc with hc | hc; exact hc.1; simp at hc
    refine ⟨(), _, trivial, a2, a3, by simp, by simp, ⟨m, ⟨b, a1⟩, b, es, cl, rfl, fun hc => ?_, (Array.getElem?_eq_some_iff.1 e4).1, e4, e5.mono (fun c hc hn => ⟨fun ht => hn (.inl ⟨hT c ht, by simp⟩), rfl⟩)⟩, by simp⟩
    have := h1 b (hT b hc); omega⟩
theorem Q_lookupE {kt et : TypeId} {k : κ} {zv r : β} {c : List (κ × β) → Prop} (ht : P.underlying t = some (.map kt et)) (hK : KeyT P kt κ) (hz : GoZ P et zv) (hx : At G x (VEx c MapTo)) (hy : At G y (V k)) (hv : ∀ m, c m → (mget m k).getD zv = r) :
    Quiet P n e G S ⟨d, .lookup t x y false, ty, pos, af, g⟩ (V r) :=
  Q_of_run fun a w hh => by
    obtain ⟨m, hm, b, es, c, e1, e2, e3, e4, e5⟩ := hx.rep hh
    obtain ⟨u, h1, h2⟩ := run_lookup ht hK e4 e5 (hy.rep hh) hz false
    rw [hv m hm] at h1
    exact ⟨u, w, by simp only [execOp, e1, Sem.run_bind, h2, Result.andThen_ok, Sem.run_pure]; rfl, Ext.refl _ _, h1⟩
end
end
end Go.Sep
namespace Go.Sep
open Go
open Enc (V)
theorem BS :
  (∀ {p : Prop} [Decidable p], (decide p = true) = p) ∧ (∀ {p : Prop} [Decidable p], decide p = false ↔ ¬p) ∧ (∀ (a b : Bool), ((a && b) = true) = (a = true ∧ b = true)) ∧ (∀ (a b : Bool), ((a || b) = true) = (a = true ∨ b = true)) ∧
  (∀ {x y : Bool}, (x && y) = false ↔ x = false ∨ y = false) ∧ (∀ {x y : Bool}, (x || y) = false ↔ x = false ∧ y = false) ∧ (∀ (b : Bool), ((!b) = true) = (b = false)) ∧ (∀ (b : Bool), ((!b) = false) = (b = true)) ∧
  (∀ (b : Bool), (true && b) = b) ∧ (∀ (b : Bool), (b && true) = b) ∧ (∀ (b : Bool), (false || b) = b) ∧ (∀ (b : Bool), (b || false) = b) ∧ (∀ (b : Bool), (b == true) = b) ∧ (∀ (b : Bool), (b == false) = !b) ∧ (∀ {a b : Bool}, (!a) = b ↔ a = !b) ∧ ((!true) = false) ∧ ((!false) = true) ∧ (∀ {p : Prop} [Decidable p], ¬¬p ↔ p) :=
  ⟨@decide_eq_true_eq, @decide_eq_false_iff_not, Bool.and_eq_true, Bool.or_eq_true, @Bool.and_eq_false_iff, @Bool.or_eq_false_iff, @Bool.not_eq_true', @Bool.not_eq_false', Bool.true_and, Bool.and_true, Bool.false_or, Bool.or_false, beq_true, beq_false, @Bool.not_eq_eq_eq_not, Bool.not_true, Bool.not_false, @Decidable.not_not⟩
section
variable {P : Program} {n : Nat} {e : Env P} {G : Ctx} {S S' : List Res} {Q Q' : Exit → Act → World → Prop}
theorem R0 {r : Res} {S : List Res} : Repl (r :: S) r [] S := Repl.none
theorem R1 {r r' : Res} {S : List Res} : Repl (r :: S) r [r'] (r' :: S) := Repl.one
theorem RT {s r : Res} {rs S S' : List Res} (h : Repl S r rs S') : Repl (s :: S) r rs (s :: S') := Repl.there h
theorem JQ {ops : Array Oper} {rest : List Oper} {o : Op} {X : VP} {dd : Nat} {ty : TypeId} {pos : String} {af : Array Edge} (hq : Quiet P n e G S ⟨some dd, o, ty, pos, af, none⟩ X) (hlt : Nat.blt dd n = true)
    (h : J n e ((dd, X) :: G) S (wpList P ops Q rest)) : J n e G S (wpList P ops Q (⟨some dd, o, ty, pos, af, none⟩ :: rest)) := J_quiet hq rfl rfl hlt h
theorem JM {ops : Array Oper} {rest : List Oper} {X : VP} {dd t : Nat} {ty : TypeId} {pos : String} {af : Array Edge} (hf : find G t = some X) (hlt : Nat.blt dd n = true)
    (h : J n e ((dd, X) :: G) S (wpList P ops Q rest)) : J n e G S (wpList P ops Q (⟨some dd, .move (.tmp t), ty, pos, af, none⟩ :: rest)) := JQ (Q_move (At.tmp hf)) hlt h
theorem JA {ops : Array Oper} {rest : List Oper} {X : VP} {dd t : Nat} {ty : TypeId} {pos : String} {af : Array Edge} (hf : find G t = some X) (hlt : Nat.blt dd n = true)
    (h : J n e ((dd, X) :: G) S (wpList P ops Q rest)) : J n e G S (wpList P ops Q (⟨some dd, .assign (.tmp t), ty, pos, af, none⟩ :: rest)) := JQ (Q_assign (At.tmp hf)) hlt h
theorem JN {ops : Array Oper} {K : Act → World → Prop} (h : J n e G S K) : J n e G S (wpList P ops (Exit.then K Q) []) := J_nil (J_then_normal h)
theorem JSR {id : Nat} {l : List Oper} {y : Code} (h : J n e G S (wpList P l.toArray (Exit.then (y.wp P Q) Q) l)) : J n e G S ((Code.seq (Code.region id l.toArray false) y).wp P Q) := J_seq (J_region h)
theorem JNR {ops : Array Oper} {id : Nat} {l : List Oper} (h : J n e G S (wpList P l.toArray Q' l)) : J n e G S (wpList P ops (Exit.then ((Code.region id l.toArray false).wp P Q') Q) []) := JN (J_region h)
theorem JNSR {ops : Array Oper} {id : Nat} {l : List Oper} {y : Code} (h : J n e G S (wpList P l.toArray (Exit.then (y.wp P Q') Q') l)) : J n e G S (wpList P ops (Exit.then ((Code.seq (Code.region id l.toArray false) y).wp P Q') Q) []) := JN (JSR h)
theorem JNSSR {ops : Array Oper} {id : Nat} {l : List Oper} {y z : Code} (h : J n e G S (wpList P l.toArray (Exit.then (y.wp P (Exit.then (z.wp P Q') Q')) (Exit.then (z.wp P Q') Q')) l)) : J n e G S (wpList P ops (Exit.then ((Code.seq (Code.seq (Code.region id l.toArray false) y) z).wp P Q') Q) []) := JN (J_seq (JSR h))
end
end Go.Sep
namespace Go.Sep
open Go Go.Proofs
set_option maxRecDepth 100000
theorem mix : Tryz.prog.follows .mixedOrders = true := by kernel_rfl
theorem T3 : GoT Tryz.prog 3 Int := ⟨by kernel_rfl, by kernel_rfl⟩ -- int
theorem T4 : GoT Tryz.prog 4 Bool := ⟨by kernel_rfl, by kernel_rfl⟩ -- bool
theorem T5 : GoT Tryz.prog 5 UInt8 := ⟨by kernel_rfl, by kernel_rfl⟩ -- uint8
theorem T9 : GoT Tryz.prog 9 Str := ⟨by kernel_rfl, by kernel_rfl⟩ -- string
theorem T23 : GoT Tryz.prog 23 (List UInt8) := ⟨by kernel_rfl, by kernel_rfl⟩ -- []uint8
theorem T29 : GoT Tryz.prog 29 (List (Arr 20 UInt8)) := ⟨by kernel_rfl, by kernel_rfl⟩ -- []api.ID
theorem T37 : GoT Tryz.prog 37 (Arr 20 UInt8) := ⟨by kernel_rfl, by kernel_rfl⟩ -- [20]uint8
theorem T38 : GoT Tryz.prog 38 (Arr 20 UInt8) := ⟨by kernel_rfl, by kernel_rfl⟩ -- trove/api.ID
theorem T44 : GoT Tryz.prog 44 (List (Arr 20 UInt8)) := ⟨by kernel_rfl, by kernel_rfl⟩ -- [][20]uint8
theorem T47 : GoT Tryz.prog 47 (Int × (List UInt8)) := ⟨by kernel_rfl, by kernel_rfl⟩ -- trove/reach.Item
theorem T53 : GoT Tryz.prog 53 (Int × (List UInt8)) := ⟨by kernel_rfl, by kernel_rfl⟩ -- trove/trovelaw22.Thing
theorem T54 : GoT Tryz.prog 54 (List ((Arr 20 UInt8) × Int × (List UInt8))) := ⟨by kernel_rfl, by kernel_rfl⟩ -- []troveref23.Item
theorem T56 : GoT Tryz.prog 56 ((List ((Arr 20 UInt8) × Int × (List UInt8))) × Bool) := ⟨by kernel_rfl, by kernel_rfl⟩ -- trove/troveref23.Map
theorem T72 : GoT Tryz.prog 72 ((Arr 20 UInt8) × Int × (List UInt8)) := ⟨by kernel_rfl, by kernel_rfl⟩ -- trove/troveref23.Item
theorem T81 : GoT Tryz.prog 81 (Int × Str × (Arr 20 UInt8)) := ⟨by kernel_rfl, by kernel_rfl⟩ -- trove/troveref12.Entry
theorem T103 : GoT Tryz.prog 103 ((Arr 20 UInt8) × (List (Arr 20 UInt8)) × Str × Str × Str) := ⟨by kernel_rfl, by kernel_rfl⟩ -- trove/object.CommitData
theorem T109 : GoT Tryz.prog 109 ((Arr 20 UInt8) × (List (Arr 20 UInt8)) × Str × Str × Str) := ⟨by kernel_rfl, by kernel_rfl⟩ -- trove/troveref12.CommitData
theorem T128 : GoT Tryz.prog 128 (Str × Bool) := ⟨by kernel_rfl, by kernel_rfl⟩ -- trove/object.lines
theorem T144 : GoT Tryz.prog 144 ((Arr 20 UInt8) × Int × Str × Str × Str) := ⟨by kernel_rfl, by kernel_rfl⟩ -- trove/object.TagData
theorem T156 : GoT Tryz.prog 156 ((Arr 20 UInt8) × Int × Str × Str × Str) := ⟨by kernel_rfl, by kernel_rfl⟩ -- trove/troveref12.TagData
theorem T180 : GoT Tryz.prog 180 (Int × Str × (Arr 20 UInt8)) := ⟨by kernel_rfl, by kernel_rfl⟩ -- trove/object.Entry
theorem T191 : GoT Tryz.prog 191 UInt32 := ⟨by kernel_rfl, by kernel_rfl⟩ -- uint32
theorem T192 : GoT Tryz.prog 192 (Arr 5 UInt32) := ⟨by kernel_rfl, by kernel_rfl⟩ -- [5]uint32
theorem T214 : GoT Tryz.prog 214 (Arr 64 UInt8) := ⟨by kernel_rfl, by kernel_rfl⟩ -- [64]uint8
theorem T216 : GoT Tryz.prog 216 ((Arr 5 UInt32) × (Arr 64 UInt8) × Int) := ⟨by kernel_rfl, by kernel_rfl⟩ -- trove/sha.Hash
theorem T224 : GoT Tryz.prog 224 UInt64 := ⟨by kernel_rfl, by kernel_rfl⟩ -- sort.xorshift
theorem T239 : GoT Tryz.prog 239 (Arr 80 UInt32) := ⟨by kernel_rfl, by kernel_rfl⟩ -- [80]uint32
theorem E3 : GoEl Tryz.prog 3 Int 8 := ⟨by kernel_rfl, by decide⟩
theorem E5 : GoEl Tryz.prog 5 UInt8 1 := ⟨by kernel_rfl, by decide⟩
theorem E23 : GoEl Tryz.prog 23 (List UInt8) 24 := ⟨by kernel_rfl, by decide⟩
theorem E37 : GoEl Tryz.prog 37 (Arr 20 UInt8) 20 := ⟨by kernel_rfl, by decide⟩
theorem E38 : GoEl Tryz.prog 38 (Arr 20 UInt8) 20 := ⟨by kernel_rfl, by decide⟩
theorem E72 : GoEl Tryz.prog 72 ((Arr 20 UInt8) × Int × (List UInt8)) 56 := ⟨by kernel_rfl, by decide⟩
theorem E81 : GoEl Tryz.prog 81 (Int × Str × (Arr 20 UInt8)) 48 := ⟨by kernel_rfl, by decide⟩
theorem E180 : GoEl Tryz.prog 180 (Int × Str × (Arr 20 UInt8)) 48 := ⟨by kernel_rfl, by decide⟩
theorem E191 : GoEl Tryz.prog 191 UInt32 4 := ⟨by kernel_rfl, by decide⟩
theorem Z3 : GoZ Tryz.prog 3 (GoZero.z : Int) := goZ _ (by kernel_rfl)
theorem Z4 : GoZ Tryz.prog 4 (GoZero.z : Bool) := goZ _ (by kernel_rfl)
theorem Z37 : GoZ Tryz.prog 37 (GoZero.z : (Arr 20 UInt8)) := goZ _ (by kernel_rfl)
theorem Z38 : GoZ Tryz.prog 38 (GoZero.z : (Arr 20 UInt8)) := goZ _ (by kernel_rfl)
theorem Z47 : GoZ Tryz.prog 47 (GoZero.z : (Int × (List UInt8))) := goZ _ (by kernel_rfl)
theorem Z56 : GoZ Tryz.prog 56 (GoZero.z : ((List ((Arr 20 UInt8) × Int × (List UInt8))) × Bool)) := goZ _ (by kernel_rfl)
theorem Z72 : GoZ Tryz.prog 72 (GoZero.z : ((Arr 20 UInt8) × Int × (List UInt8))) := goZ _ (by kernel_rfl)
theorem Z81 : GoZ Tryz.prog 81 (GoZero.z : (Int × Str × (Arr 20 UInt8))) := goZ _ (by kernel_rfl)
theorem Z103 : GoZ Tryz.prog 103 (GoZero.z : ((Arr 20 UInt8) × (List (Arr 20 UInt8)) × Str × Str × Str)) := goZ _ (by kernel_rfl)
theorem Z109 : GoZ Tryz.prog 109 (GoZero.z : ((Arr 20 UInt8) × (List (Arr 20 UInt8)) × Str × Str × Str)) := goZ _ (by kernel_rfl)
theorem Z128 : GoZ Tryz.prog 128 (GoZero.z : (Str × Bool)) := goZ _ (by kernel_rfl)
theorem Z144 : GoZ Tryz.prog 144 (GoZero.z : ((Arr 20 UInt8) × Int × Str × Str × Str)) := goZ _ (by kernel_rfl)
theorem Z156 : GoZ Tryz.prog 156 (GoZero.z : ((Arr 20 UInt8) × Int × Str × Str × Str)) := goZ _ (by kernel_rfl)
theorem Z180 : GoZ Tryz.prog 180 (GoZero.z : (Int × Str × (Arr 20 UInt8))) := goZ _ (by kernel_rfl)
theorem Z191 : GoZ Tryz.prog 191 (GoZero.z : UInt32) := goZ _ (by kernel_rfl)
theorem Z192 : GoZ Tryz.prog 192 (GoZero.z : (Arr 5 UInt32)) := goZ _ (by kernel_rfl)
theorem Z216 : GoZ Tryz.prog 216 (GoZero.z : ((Arr 5 UInt32) × (Arr 64 UInt8) × Int)) := goZ _ (by kernel_rfl)
theorem Z224 : GoZ Tryz.prog 224 (GoZero.z : UInt64) := goZ _ (by kernel_rfl)
theorem Z239 : GoZ Tryz.prog 239 (GoZero.z : (Arr 80 UInt32)) := goZ _ (by kernel_rfl)
theorem Z259 : GoZ Tryz.prog 259 (GoZero.z : (Arr 65 UInt8)) := goZ _ (by kernel_rfl)
theorem F47_0 : fieldInfo Tryz.prog 47 0 = some (0, 3, 1) := by kernel_rfl
theorem PL47_0 : placeOf Tryz.prog 47 0 = some (0, Enc.size Int) := by kernel_rfl
theorem F47_1 : fieldInfo Tryz.prog 47 1 = some (1, 23, 1) := by kernel_rfl
theorem PL47_1 : placeOf Tryz.prog 47 1 = some (1, Enc.size (List UInt8)) := by kernel_rfl
theorem F53_0 : fieldInfo Tryz.prog 53 0 = some (0, 3, 1) := by kernel_rfl
theorem F53_1 : fieldInfo Tryz.prog 53 1 = some (1, 23, 1) := by kernel_rfl
theorem F56_0 : fieldInfo Tryz.prog 56 0 = some (0, 54, 1) := by kernel_rfl
theorem F56_1 : fieldInfo Tryz.prog 56 1 = some (1, 4, 1) := by kernel_rfl
theorem F72_0 : fieldInfo Tryz.prog 72 0 = some (0, 37, 20) := by kernel_rfl
theorem PL72_0 : placeOf Tryz.prog 72 0 = some (0, Enc.size (Arr 20 UInt8)) := by kernel_rfl
theorem F72_1 : fieldInfo Tryz.prog 72 1 = some (20, 3, 1) := by kernel_rfl
theorem PL72_1 : placeOf Tryz.prog 72 1 = some (20, Enc.size Int) := by kernel_rfl
theorem F72_2 : fieldInfo Tryz.prog 72 2 = some (21, 23, 1) := by kernel_rfl
theorem PL72_2 : placeOf Tryz.prog 72 2 = some (21, Enc.size (List UInt8)) := by kernel_rfl
theorem F81_0 : fieldInfo Tryz.prog 81 0 = some (0, 3, 1) := by kernel_rfl
theorem PL81_0 : placeOf Tryz.prog 81 0 = some (0, Enc.size Int) := by kernel_rfl
theorem F81_1 : fieldInfo Tryz.prog 81 1 = some (1, 9, 1) := by kernel_rfl
theorem PL81_1 : placeOf Tryz.prog 81 1 = some (1, Enc.size Str) := by kernel_rfl
theorem F81_2 : fieldInfo Tryz.prog 81 2 = some (2, 37, 20) := by kernel_rfl
theorem PL81_2 : placeOf Tryz.prog 81 2 = some (2, Enc.size (Arr 20 UInt8)) := by kernel_rfl
theorem F103_0 : fieldInfo Tryz.prog 103 0 = some (0, 38, 20) := by kernel_rfl
theorem PL103_0 : placeOf Tryz.prog 103 0 = some (0, Enc.size (Arr 20 UInt8)) := by kernel_rfl
theorem F103_1 : fieldInfo Tryz.prog 103 1 = some (20, 29, 1) := by kernel_rfl
theorem F103_2 : fieldInfo Tryz.prog 103 2 = some (21, 9, 1) := by kernel_rfl
theorem F103_3 : fieldInfo Tryz.prog 103 3 = some (22, 9, 1) := by kernel_rfl
theorem F103_4 : fieldInfo Tryz.prog 103 4 = some (23, 9, 1) := by kernel_rfl
theorem F109_0 : fieldInfo Tryz.prog 109 0 = some (0, 37, 20) := by kernel_rfl
theorem F109_1 : fieldInfo Tryz.prog 109 1 = some (20, 44, 1) := by kernel_rfl
theorem F109_2 : fieldInfo Tryz.prog 109 2 = some (21, 9, 1) := by kernel_rfl
theorem F109_3 : fieldInfo Tryz.prog 109 3 = some (22, 9, 1) := by kernel_rfl
theorem F109_4 : fieldInfo Tryz.prog 109 4 = some (23, 9, 1) := by kernel_rfl
theorem F128_0 : fieldInfo Tryz.prog 128 0 = some (0, 9, 1) := by kernel_rfl
theorem PL128_0 : placeOf Tryz.prog 128 0 = some (0, Enc.size Str) := by kernel_rfl
theorem F128_1 : fieldInfo Tryz.prog 128 1 = some (1, 4, 1) := by kernel_rfl
theorem F144_0 : fieldInfo Tryz.prog 144 0 = some (0, 38, 20) := by kernel_rfl
theorem PL144_0 : placeOf Tryz.prog 144 0 = some (0, Enc.size (Arr 20 UInt8)) := by kernel_rfl
theorem F144_1 : fieldInfo Tryz.prog 144 1 = some (20, 3, 1) := by kernel_rfl
theorem F144_2 : fieldInfo Tryz.prog 144 2 = some (21, 9, 1) := by kernel_rfl
theorem F144_3 : fieldInfo Tryz.prog 144 3 = some (22, 9, 1) := by kernel_rfl
theorem F144_4 : fieldInfo Tryz.prog 144 4 = some (23, 9, 1) := by kernel_rfl
theorem F156_0 : fieldInfo Tryz.prog 156 0 = some (0, 37, 20) := by kernel_rfl
theorem PL156_0 : placeOf Tryz.prog 156 0 = some (0, Enc.size (Arr 20 UInt8)) := by kernel_rfl
theorem F156_1 : fieldInfo Tryz.prog 156 1 = some (20, 3, 1) := by kernel_rfl
theorem PL156_1 : placeOf Tryz.prog 156 1 = some (20, Enc.size Int) := by kernel_rfl
theorem F156_2 : fieldInfo Tryz.prog 156 2 = some (21, 9, 1) := by kernel_rfl
theorem PL156_2 : placeOf Tryz.prog 156 2 = some (21, Enc.size Str) := by kernel_rfl
theorem F156_3 : fieldInfo Tryz.prog 156 3 = some (22, 9, 1) := by kernel_rfl
theorem PL156_3 : placeOf Tryz.prog 156 3 = some (22, Enc.size Str) := by kernel_rfl
theorem F156_4 : fieldInfo Tryz.prog 156 4 = some (23, 9, 1) := by kernel_rfl
theorem PL156_4 : placeOf Tryz.prog 156 4 = some (23, Enc.size Str) := by kernel_rfl
theorem F180_0 : fieldInfo Tryz.prog 180 0 = some (0, 3, 1) := by kernel_rfl
theorem PL180_0 : placeOf Tryz.prog 180 0 = some (0, Enc.size Int) := by kernel_rfl
theorem F180_1 : fieldInfo Tryz.prog 180 1 = some (1, 9, 1) := by kernel_rfl
theorem PL180_1 : placeOf Tryz.prog 180 1 = some (1, Enc.size Str) := by kernel_rfl
theorem F180_2 : fieldInfo Tryz.prog 180 2 = some (2, 38, 20) := by kernel_rfl
theorem PL180_2 : placeOf Tryz.prog 180 2 = some (2, Enc.size (Arr 20 UInt8)) := by kernel_rfl
theorem F216_0 : fieldInfo Tryz.prog 216 0 = some (0, 192, 5) := by kernel_rfl
theorem PL216_0 : placeOf Tryz.prog 216 0 = some (0, Enc.size (Arr 5 UInt32)) := by kernel_rfl
theorem F216_1 : fieldInfo Tryz.prog 216 1 = some (5, 214, 64) := by kernel_rfl
theorem F216_2 : fieldInfo Tryz.prog 216 2 = some (69, 3, 1) := by kernel_rfl
theorem KT9 : KeyT Tryz.prog 9 Str := keyStr (by kernel_rfl)
theorem KT38 : KeyT Tryz.prog 38 Oid := keyOid (el := 5) (by kernel_rfl) (by kernel_rfl) (by kernel_rfl)
end Go.Sep
namespace Go.Sep
open Go
abbrev Bs := List UInt8
theorem idxB_lt (l : Bs) (c : UInt8) : Lib.indexByte l c < l.length := by
  induction l with
  | nil => simp [Lib.indexByte]
  | cons b l ih =>
    unfold Lib.indexByte
    have := Lib.indexByte_ge l c
    split
    · simp
    · split <;> simp <;> omega
theorem idxB_ge (l : Bs) (c : UInt8) : -1 ≤ Lib.indexByte l c := Lib.indexByte_ge l c
theorem idxB_lt0 (l : Bs) (c : UInt8) : Lib.indexByte l c < 0 ↔ c ∉ l := by
  induction l with
  | nil => simp [Lib.indexByte]
  | cons b l ih =>
    have hg := idxB_ge l c
    unfold Lib.indexByte
    by_cases h : b = c
    · subst h; simp
    · have h' : (b == c) = false := by simpa using h
      rw [h']
      simp only [Bool.false_eq_true, if_false, beq_iff_eq]
      split
      · rename_i h1
        have : c ∉ l := ih.1 (by omega)
        simp [this]; exact fun e => h e.symm
      · rename_i h1
        have : ¬ c ∉ l := fun hn => h1 (by have := ih.2 hn; omega)
        constructor
        · intro h2; omega
        · intro h2; exact absurd (fun hm => h2 (List.mem_cons_of_mem _ hm)) this
def cutB (s : Bs) (c : UInt8) : Bs × Bs × Bool :=
  if 0 ≤ Lib.indexByte s c then (s.take (Lib.indexByte s c).toNat, s.drop ((Lib.indexByte s c).toNat + 1), true) else (s, [], false)
theorem cutB_yes {s : Bs} {c : UInt8} {i : Int} (h : 0 ≤ Lib.indexByte s c) (hi : i = Lib.indexByte s c + 1) :
    cutB s c = (List.drop (Int.toNat 0) (s.take (Lib.indexByte s c).toNat), (s.take ((s.length : Int)).toNat).drop i.toNat, true) := by
  subst hi
  have e1 : (Lib.indexByte s c + 1).toNat = (Lib.indexByte s c).toNat + 1 := by omega
  simp [cutB, if_pos h, e1]
theorem cutB_no {s : Bs} {c : UInt8} (h : Lib.indexByte s c < 0) : cutB s c = (s, [], false) := by
  have : ¬ 0 ≤ Lib.indexByte s c := by omega
  simp [cutB, this]
def cutPre (s p : Bs) : Bs × Bool := if p.isPrefixOf s then (s.drop p.length, true) else (s, false)
theorem hasPre_eq (s p : Bs) : (decide ((p.length : Int) ≤ (s.length : Int)) && decide (List.drop (Int.toNat 0) (s.take ((p.length : Int)).toNat) = p)) = p.isPrefixOf s := by
  rw [Bool.eq_iff_iff]
  simp only [Bool.and_eq_true, decide_eq_true_eq, List.isPrefixOf_iff_prefix, List.prefix_iff_eq_take]
  simp
  constructor
  · intro h; exact h.2.symm
  · intro h; refine ⟨?_, h.symm⟩; rw [h]; simp; omega
def wordB (k : Int) : Bs := if k = 1 then [99, 111, 109, 109, 105, 116] else if k = 2 then [116, 114, 101, 101] else if k = 3 then [98, 108, 111, 98] else if k = 4 then [116, 97, 103] else []
def textB (s : Bs) (most : Int) : Bool := decide (s ≠ []) && decide ((s.length : Int) ≤ most) && decide ((0 : UInt8) ∉ s) && decide ((10 : UInt8) ∉ s)
def namedB (s : Bs) : Bool := !(decide (s = []) || decide (s = [46]) || decide (s = [46, 46]) || decide (s = [46, 103, 105, 116])) && (decide ((s.length : Int) ≤ 100) && decide ((47 : UInt8) ∉ s) && decide ((0 : UInt8) ∉ s))
def hexDigits : Bs := [48, 49, 50, 51, 52, 53, 54, 55, 56, 57, 97, 98, 99, 100, 101, 102]
def isHexB (s : Bs) : Bool := s.all (fun c => decide (c ∈ hexDigits))
def nextB (s f : Bs) : Bs × Bool × Bs := if (cutB s 10).2.2 = true ∧ (cutPre (cutB s 10).1 f).2 = true then ((cutPre (cutB s 10).1 f).1, true, (cutB s 10).2.1) else ([], false, s)
theorem cutB_len (s : Bs) (c : UInt8) : (cutB s c).1.length ≤ s.length ∧ (cutB s c).2.1.length ≤ s.length := by
  unfold cutB; split <;> simp <;> omega
theorem cutPre_len (s p : Bs) : (cutPre s p).1.length ≤ s.length := by unfold cutPre; split <;> simp
theorem nextB_len (s f : Bs) : (nextB s f).1.length ≤ s.length ∧ (nextB s f).2.2.length ≤ s.length := by
  have h1 := cutB_len s 10; have h2 := cutPre_len (cutB s 10).1 f
  unfold nextB; split <;> simp <;> omega
end Go.Sep
namespace Go.Sep
open Go Go.Proofs
open Enc (V)
attribute [local irreducible] Quiet QStep J At FnX Fn FnP Repl Split Has Post Back GoZ
theorem nilSl {α : Type} [Enc α] : ∀ (w : World) (T : Nat → Prop) (v : Value), (Is (.slice none 0 0)).rep w T v → (Sl ([] : List α)).rep w T v := fun w T v h => by obtain rfl : v = _ := h; exact Sl_nil w T
theorem x170 (s : Bytes) (c : UInt8) : FnX Tryz.prog 170 [VStr s, VInt .u8 (c.toNat : Nat)] (VInt .i64 (Lib.indexByte s c)) := idxByteS_x (P := Tryz.prog) (f := 170) (by kernel_rfl) s c
theorem x174 (s : Bytes) (c : UInt8) : FnX Tryz.prog 174 [Sl s, VInt .u8 (c.toNat : Nat)] (VInt .i64 (Lib.indexByte s c)) := idxByteB_x (P := Tryz.prog) (f := 174) (by kernel_rfl) s c
theorem x211 (s t : Bytes) : FnX Tryz.prog 211 [Sl s, Sl t] (VInt .i64 (Lib.compareBytes s t)) := compareB_x (P := Tryz.prog) (f := 211) (by kernel_rfl) s t
theorem slIdxByte_c (s : Bytes) (c : UInt8) : FnP Tryz.prog 151 [VStr s, VInt .u8 (c.toNat : Nat)] (VInt .i64 (Lib.indexByte s c)) := by
  refine FnP_intro (by kernel_rfl) Tryz.func151 rfl Tryz.ntmps151 rfl (fun e => ?_)
  refine JSR ?_
  refine JQ (Q_assign At.int) rfl ?_
  refine JNSR ?_
  refine JM rfl rfl ?_
  refine JM rfl rfl ?_
  refine JQ (Q_callX (x170 _ _) ⟨(.tmp rfl), (.tmp rfl), trivial⟩) rfl ?_
  refine JA rfl rfl ?_
  refine JN ?_
  refine J_retc ?_
  exact J_ret1 rfl (ResAt.tmp rfl) () trivial Split.nil imp_refl
theorem strIdxByte_c (s : Bytes) (c : UInt8) : FnP Tryz.prog 129 [VStr s, VInt .u8 (c.toNat : Nat)] (VInt .i64 (Lib.indexByte s c)) := by
  refine FnP_intro (by kernel_rfl) Tryz.func129 rfl Tryz.ntmps129 rfl (fun e => ?_)
  refine JSR ?_
  refine JQ (Q_assign At.int) rfl ?_
  refine JNSR ?_
  refine JM rfl rfl ?_
  refine JM rfl rfl ?_
  refine JQ (Q_call (slIdxByte_c _ _) ⟨(.tmp rfl), (.tmp rfl), trivial⟩) rfl ?_
  refine JA rfl rfl ?_
  refine JN ?_
  refine J_retc ?_
  exact J_ret1 rfl (ResAt.tmp rfl) () trivial Split.nil imp_refl
theorem bIdxByte_c (s : Bytes) (c : UInt8) : FnP Tryz.prog 157 [Sl s, VInt .u8 (c.toNat : Nat)] (VInt .i64 (Lib.indexByte s c)) := by
  refine FnP_intro (by kernel_rfl) Tryz.func157 rfl Tryz.ntmps157 rfl (fun e => ?_)
  refine JSR ?_
  refine JQ (Q_assign At.int) rfl ?_
  refine JNSR ?_
  refine JM rfl rfl ?_
  refine JM rfl rfl ?_
  refine JQ (Q_callX (x174 _ _) ⟨(.tmp rfl), (.tmp rfl), trivial⟩) rfl ?_
  refine JA rfl rfl ?_
  refine JN ?_
  refine J_retc ?_
  exact J_ret1 rfl (ResAt.tmp rfl) () trivial Split.nil imp_refl
theorem bCompare_c (s t : Bytes) : FnP Tryz.prog 210 [Sl s, Sl t] (VInt .i64 (Lib.compareBytes s t)) := by
  refine FnP_intro (by kernel_rfl) Tryz.func210 rfl Tryz.ntmps210 rfl (fun e => ?_)
  refine JSR ?_
  refine JQ (Q_assign At.int) rfl ?_
  refine JNSR ?_
  refine JM rfl rfl ?_
  refine JM rfl rfl ?_
  refine JQ (Q_callX (x211 _ _) ⟨(.tmp rfl), (.tmp rfl), trivial⟩) rfl ?_
  refine JA rfl rfl ?_
  refine JN ?_
  refine J_retc ?_
  exact J_ret1 rfl (ResAt.tmp rfl) () trivial Split.nil imp_refl
theorem slIndex1_c (s : Bytes) (c : UInt8) : FnP Tryz.prog 152 [VStr s, VStr [c]] (VInt .i64 (Lib.indexByte s c)) := by
  refine FnP_intro (by kernel_rfl) Tryz.func152 rfl Tryz.ntmps152 rfl (fun e => ?_)
  refine JSR ?_
  refine JQ (Q_assign At.int) rfl ?_
  refine JNSR ?_
  refine JM rfl rfl ?_
  refine JQ (Q_lens Tryz.underlying9 rfl (.tmp rfl)) rfl ?_
  refine JA rfl rfl ?_
  refine JN ?_
  refine J_seq ?_
  refine J_block ?_
  refine JSR ?_
  refine JM rfl rfl ?_
  refine JQ (Q_eql (.tmp rfl) At.int) rfl ?_
  refine JM rfl rfl ?_
  refine J_qstep (QG rfl rfl rfl rfl rfl opt_bool (fun hg => Q_move (.tmp rfl))) rfl rfl ?_
  refine J_qstep (QG rfl rfl rfl rfl rfl opt_bool (fun hg => Q_move (.tmp rfl))) rfl rfl ?_
  refine J_qstep (QG rfl rfl rfl rfl rfl opt_bool (fun hg => (by have hg0 := hg; simp only [BS, ne_eq] at hg0; exact Q_eqls (At.opt rfl (by first | exact hg | (simp only [BS, ne_eq] at hg ⊢; first | exact hg | simp_all))) (At.opt rfl (by first | exact hg | (simp only [BS, ne_eq] at hg ⊢; first | exact hg | simp_all)))))) rfl rfl ?_
  refine JQ (Q_orB (.tmp rfl) (fun hb => At.opt rfl (by simp only [BS, ne_eq] at hb ⊢; first | exact hb | simp_all))) rfl ?_
  refine JA rfl rfl ?_
  refine JN ?_
  refine J_cond (.tmp rfl) (fun h0 => ?_) (fun h0 => ?_)
  · try simp only [BS, ne_eq] at h0
    refine JSR ?_
    refine JQ (Q_assign At.int) rfl ?_
    refine JN ?_
    refine J_retc ?_
    refine J_blk_ret ?_
    refine J_then_ret ?_
    exact J_ret1 rfl (ResAt.tmp rfl) () trivial Split.nil (imp_eq (vint_eq (by rcases h0 with h0 | h0; exact absurd h0 (by simp); rw [← h0]; simp [Lib.indexByte])))
  try simp only [BS, ne_eq] at h0
  refine JSR ?_
  refine JM rfl rfl ?_
  refine JQ (Q_eql (.tmp rfl) At.int) rfl ?_
  refine JA rfl rfl ?_
  refine JN ?_
  refine J_cond (.tmp rfl) (fun h1 => ?_) (fun h1 => ?_)
  · try simp only [BS, ne_eq] at h1
    refine JSR ?_
    refine JM rfl rfl ?_
    refine JM rfl rfl ?_
    refine JQ (by first | exact Q_idxsN Tryz.underlying9 (.tmp rfl) At.int (by first | omega | simp <;> omega) | exact Q_idxs Tryz.underlying9 (.tmp rfl) At.int (by first | omega | simp <;> omega) (by first | omega | simp <;> omega)) rfl ?_
    refine JQ (Q_call (slIdxByte_c _ _) ⟨(.tmp rfl), (.tmp rfl), trivial⟩) rfl ?_
    refine JA rfl rfl ?_
    refine JN ?_
    refine J_retc ?_
    refine J_blk_ret ?_
    refine J_then_ret ?_
    exact J_ret1 rfl (ResAt.tmp rfl) () trivial Split.nil imp_refl
  try simp only [BS, ne_eq] at h1
  exact absurd h1 (by simp)
theorem slCut_c (s : Bytes) (c : UInt8) (hs : s.length ≤ 4611686018427387904) : FnP Tryz.prog 130 [VStr s, VStr [c]] (VTup [VStr (cutB s c).1, VStr (cutB s c).2.1, VBool (cutB s c).2.2]) := by
  have hi := idxB_lt s c
  refine FnP_intro (by kernel_rfl) Tryz.func130 rfl Tryz.ntmps130 rfl (fun e => ?_)
  refine JSR ?_
  refine JQ (Q_assign At.str) rfl ?_
  refine JQ (Q_assign At.str) rfl ?_
  refine JQ (Q_assign At.bool) rfl ?_
  refine JNSSR ?_
  refine JM rfl rfl ?_
  refine JM rfl rfl ?_
  refine JQ (Q_call (slIndex1_c _ _) ⟨(.tmp rfl), (.tmp rfl), trivial⟩) rfl ?_
  refine JA rfl rfl ?_
  refine JNSR ?_
  refine JM rfl rfl ?_
  refine JQ (Q_geq (.tmp rfl) At.int) rfl ?_
  refine JN ?_
  refine J_cond (.tmp rfl) (fun h0 => ?_) (fun h0 => ?_)
  · try simp only [BS, ne_eq] at h0
    refine J_seq ?_
    refine J_draw mix 12 [13, 14, 15, 16, 17, 18, 19, 20, 21, 4, 5, 6] [_, _, _, _, _, _, _, _, _, _, _, _] rfl rfl (by kernel_rfl) (by kernel_rfl) (by kernel_rfl) (by kernel_rfl) (by kernel_rfl) ⟨QS (Q_move (.tmp rfl)) rfl, QS (Q_move (.tmp rfl)) rfl, QS (Q_slices Tryz.underlying9 (.tmp rfl) rfl ⟨_, (.tmp rfl)⟩ (by first | omega | simp <;> omega) (by first | omega | simp <;> omega) (by first | omega | simp <;> omega)) rfl, QS (Q_move (.tmp rfl)) rfl, QS (Q_move (.tmp rfl)) rfl, QS (Q_move (.tmp rfl)) rfl, QS (Q_lens Tryz.underlying9 rfl (.tmp rfl)) rfl, QS (Q_addi (.tmp rfl) (.tmp rfl) (by first | omega | simp <;> omega) (by first | omega | simp <;> omega)) rfl, QS (Q_slices Tryz.underlying9 (.tmp rfl) ⟨_, (.tmp rfl)⟩ rfl (by first | omega | simp <;> omega) (by first | omega | simp <;> omega) (by first | omega | simp <;> omega)) rfl, QS (Q_assign (.tmp rfl)) rfl, QS (Q_assign (.tmp rfl)) rfl, QS (Q_assign At.bool) rfl, trivial⟩ ?_
    refine JN ?_
    refine J_retc ?_
    refine J_then_ret ?_
    exact J_ret3 rfl (ResAt.tmp rfl) (ResAt.tmp rfl) (ResAt.tmp rfl) () trivial Split.nil (imp_eq (by rw [cutB_yes h0 rfl]; rfl))
  try simp only [BS, ne_eq] at h0
  refine J_skip ?_
  refine J_then_normal ?_
  refine JSR ?_
  refine JM rfl rfl ?_
  refine JA rfl rfl ?_
  refine JQ (Q_assign At.str) rfl ?_
  refine JQ (Q_assign At.bool) rfl ?_
  refine JN ?_
  refine J_retc ?_
  exact J_ret3 rfl (ResAt.tmp rfl) (ResAt.tmp rfl) (ResAt.tmp rfl) () trivial Split.nil (imp_eq (by rw [cutB_no (by first | omega | simp <;> omega)]))
theorem strCut_c (s : Bytes) (c : UInt8) (hs : s.length ≤ 4611686018427387904) : FnP Tryz.prog 88 [VStr s, VStr [c]] (VTup [VStr (cutB s c).1, VStr (cutB s c).2.1, VBool (cutB s c).2.2]) := by
  refine FnP_intro (by kernel_rfl) Tryz.func88 rfl Tryz.ntmps88 rfl (fun e => ?_)
  refine JSR ?_
  refine JQ (Q_assign At.str) rfl ?_
  refine JQ (Q_assign At.str) rfl ?_
  refine JQ (Q_assign At.bool) rfl ?_
  refine JNSR ?_
  refine JM rfl rfl ?_
  refine JM rfl rfl ?_
  refine JQ (Q_call (slCut_c _ _ (by first | omega | simp <;> omega)) ⟨(.tmp rfl), (.tmp rfl), trivial⟩) rfl ?_
  refine JQ (Q_extract (.tmp rfl) rfl) rfl ?_
  refine JQ (Q_extract (.tmp rfl) rfl) rfl ?_
  refine JQ (Q_extract (.tmp rfl) rfl) rfl ?_
  refine JA rfl rfl ?_
  refine JA rfl rfl ?_
  refine JA rfl rfl ?_
  refine JN ?_
  refine J_retc ?_
  exact J_ret3 rfl (ResAt.tmp rfl) (ResAt.tmp rfl) (ResAt.tmp rfl) () trivial Split.nil imp_refl
theorem bIndex1_c (s : Bytes) (c : UInt8) : FnP Tryz.prog 135 [Sl s, Sl [c]] (VInt .i64 (Lib.indexByte s c)) := by
  refine FnP_intro (by kernel_rfl) Tryz.func135 rfl Tryz.ntmps135 rfl (fun e => ?_)
  refine JSR ?_
  refine JQ (Q_assign At.int) rfl ?_
  refine JNSR ?_
  refine JM rfl rfl ?_
  refine JQ (Q_len Tryz.underlying23 rfl (.tmp rfl)) rfl ?_
  refine JA rfl rfl ?_
  refine JN ?_
  refine J_seq ?_
  refine J_block ?_
  refine JSR ?_
  refine JM rfl rfl ?_
  refine JQ (Q_eql (.tmp rfl) At.int) rfl ?_
  refine JA rfl rfl ?_
  refine JN ?_
  refine J_cond (.tmp rfl) (fun h0 => ?_) (fun h0 => ?_)
  · try simp only [BS, ne_eq] at h0
    exact absurd h0 (by simp)
  try simp only [BS, ne_eq] at h0
  refine JSR ?_
  refine JM rfl rfl ?_
  refine JQ (Q_eql (.tmp rfl) At.int) rfl ?_
  refine JA rfl rfl ?_
  refine JN ?_
  refine J_cond (.tmp rfl) (fun h1 => ?_) (fun h1 => ?_)
  · try simp only [BS, ne_eq] at h1
    refine JSR ?_
    refine JM rfl rfl ?_
    refine JM rfl rfl ?_
    refine JQ (by first | exact Q_idxAddrN Tryz.underlying23 T5.size (.tmp rfl) At.int (by first | omega | simp <;> omega) | exact Q_idxAddr Tryz.underlying23 T5.size (.tmp rfl) At.int (by first | omega | simp <;> omega) (by first | omega | simp <;> omega)) rfl ?_
    refine JQ (Q_load (.tmp rfl) T5) rfl ?_
    refine JQ (Q_call (bIdxByte_c _ _) ⟨(.tmp rfl), (.tmp rfl), trivial⟩) rfl ?_
    refine JA rfl rfl ?_
    refine JN ?_
    refine J_retc ?_
    refine J_blk_ret ?_
    refine J_then_ret ?_
    exact J_ret1 rfl (ResAt.tmp rfl) () trivial Split.nil imp_refl
  try simp only [BS, ne_eq] at h1
  exact absurd h1 (by simp)
theorem bCut_c (s : Bytes) (c : UInt8) : FnP Tryz.prog 97 [Sl s, Sl [c]] (VTup [Sl (cutB s c).1, Sl (cutB s c).2.1, VBool (cutB s c).2.2]) := by
  have hi := idxB_lt s c
  refine FnP_intro (by kernel_rfl) Tryz.func97 rfl Tryz.ntmps97 rfl (fun e => ?_)
  refine J_lenLe (t := 0) rfl (fun hl0 => ?_)
  refine JSR ?_
  refine JQ (Q_assign At.const) rfl ?_
  refine JQ (Q_assign At.const) rfl ?_
  refine JQ (Q_assign At.bool) rfl ?_
  refine JNSSR ?_
  refine JM rfl rfl ?_
  refine JM rfl rfl ?_
  refine JQ (Q_call (bIndex1_c _ _) ⟨(.tmp rfl), (.tmp rfl), trivial⟩) rfl ?_
  refine JA rfl rfl ?_
  refine JNSR ?_
  refine JM rfl rfl ?_
  refine JQ (Q_geq (.tmp rfl) At.int) rfl ?_
  refine JN ?_
  refine J_cond (.tmp rfl) (fun h0 => ?_) (fun h0 => ?_)
  · try simp only [BS, ne_eq] at h0
    refine J_seq ?_
    refine J_draw mix 12 [13, 14, 15, 16, 17, 18, 19, 20, 21, 4, 5, 6] [_, _, _, _, _, _, _, _, _, _, _, _] rfl rfl (by kernel_rfl) (by kernel_rfl) (by kernel_rfl) (by kernel_rfl) (by kernel_rfl) ⟨QS (Q_move (.tmp rfl)) rfl, QS (Q_move (.tmp rfl)) rfl, QS (Q_slice Tryz.underlying23 T5.size (.tmp rfl) rfl ⟨_, (.tmp rfl)⟩ (by first | omega | simp <;> omega) (by first | omega | simp <;> omega) (by first | omega | simp <;> omega)) rfl, QS (Q_move (.tmp rfl)) rfl, QS (Q_move (.tmp rfl)) rfl, QS (Q_move (.tmp rfl)) rfl, QS (Q_len Tryz.underlying23 rfl (.tmp rfl)) rfl, QS (Q_addi (.tmp rfl) (.tmp rfl) (by first | omega | simp <;> omega) (by first | omega | simp <;> omega)) rfl, QS (Q_slice Tryz.underlying23 T5.size (.tmp rfl) ⟨_, (.tmp rfl)⟩ rfl (by first | omega | simp <;> omega) (by first | omega | simp <;> omega) (by first | omega | simp <;> omega)) rfl, QS (Q_assign (.tmp rfl)) rfl, QS (Q_assign (.tmp rfl)) rfl, QS (Q_assign At.bool) rfl, trivial⟩ ?_
    refine JN ?_
    refine J_retc ?_
    refine J_then_ret ?_
    exact J_ret3 rfl (ResAt.tmp rfl) (ResAt.tmp rfl) (ResAt.tmp rfl) () trivial Split.nil (imp_eq (by rw [cutB_yes h0 rfl]; rfl))
  try simp only [BS, ne_eq] at h0
  refine J_skip ?_
  refine J_then_normal ?_
  refine JSR ?_
  refine JM rfl rfl ?_
  refine JA rfl rfl ?_
  refine JQ (Q_assign At.const) rfl ?_
  refine JQ (Q_assign At.bool) rfl ?_
  refine JN ?_
  refine J_retc ?_
  exact J_ret3 rfl (ResAt.tmp rfl) (ResAt.imp (ResAt.tmp rfl) (nilSl (α := UInt8))) (ResAt.tmp rfl) () trivial Split.nil (imp_eq (by rw [cutB_no (by first | omega | simp <;> omega)]))
theorem slHasPre_c (s p : Bytes) (hs : s.length ≤ 4611686018427387904) (hp : p.length ≤ 4611686018427387904) : FnP Tryz.prog 153 [VStr s, VStr p] (VBool (p.isPrefixOf s)) := by
  refine FnP_intro (by kernel_rfl) Tryz.func153 rfl Tryz.ntmps153 rfl (fun e => ?_)
  refine JSR ?_
  refine JQ (Q_assign At.bool) rfl ?_
  refine JNSR ?_
  refine JM rfl rfl ?_
  refine JQ (Q_lens Tryz.underlying9 rfl (.tmp rfl)) rfl ?_
  refine JM rfl rfl ?_
  refine JQ (Q_lens Tryz.underlying9 rfl (.tmp rfl)) rfl ?_
  refine JQ (Q_geq (.tmp rfl) (.tmp rfl)) rfl ?_
  refine JM rfl rfl ?_
  refine J_qstep (QG rfl rfl rfl rfl rfl opt_bool (fun hg => Q_move (.tmp rfl))) rfl rfl ?_
  refine J_qstep (QG rfl rfl rfl rfl rfl opt_bool (fun hg => Q_move (.tmp rfl))) rfl rfl ?_
  refine J_qstep (QG rfl rfl rfl rfl rfl opt_bool (fun hg => (by have hg0 := hg; simp only [BS, ne_eq] at hg0; exact Q_lens Tryz.underlying9 rfl (At.opt rfl (by first | exact hg | (simp only [BS, ne_eq] at hg ⊢; first | exact hg | simp_all)))))) rfl rfl ?_
  refine J_qstep (QG rfl rfl rfl rfl rfl opt_bool (fun hg => (by have hg0 := hg; simp only [BS, ne_eq] at hg0; exact Q_slices Tryz.underlying9 (At.opt rfl (by first | exact hg | (simp only [BS, ne_eq] at hg ⊢; first | exact hg | simp_all))) rfl ⟨_, (At.opt rfl (by first | exact hg | (simp only [BS, ne_eq] at hg ⊢; first | exact hg | simp_all)))⟩ (by first | omega | simp <;> omega) (by first | omega | simp <;> omega) (by first | omega | simp <;> omega)))) rfl rfl ?_
  refine J_qstep (QG rfl rfl rfl rfl rfl opt_bool (fun hg => Q_move (.tmp rfl))) rfl rfl ?_
  refine J_qstep (QG rfl rfl rfl rfl rfl opt_bool (fun hg => (by have hg0 := hg; simp only [BS, ne_eq] at hg0; exact Q_eqls (At.opt rfl (by first | exact hg | (simp only [BS, ne_eq] at hg ⊢; first | exact hg | simp_all))) (At.opt rfl (by first | exact hg | (simp only [BS, ne_eq] at hg ⊢; first | exact hg | simp_all)))))) rfl rfl ?_
  refine JQ (Q_andB (.tmp rfl) (fun hb => At.opt rfl (by simp only [BS, ne_eq] at hb ⊢; first | exact hb | simp_all))) rfl ?_
  refine JA rfl rfl ?_
  refine JN ?_
  refine J_retc ?_
  exact J_ret1 rfl (ResAt.tmp rfl) () trivial Split.nil (imp_eq (vbool_eq (hasPre_eq s p)))
end Go.Sep
namespace Go.Sep
open Go Go.Proofs
open Enc (V)
attribute [local irreducible] Quiet QStep J At FnX Fn FnP Repl Split Has Post Back GoZ
theorem slCutPre_c (s p : Bytes) (hs : s.length ≤ 4611686018427387904) (hp : p.length ≤ 4611686018427387904) : FnP Tryz.prog 131 [VStr s, VStr p] (VTup [VStr (cutPre s p).1, VBool (cutPre s p).2]) := by
  refine FnP_intro (by kernel_rfl) Tryz.func131 rfl Tryz.ntmps131 rfl (fun e => ?_)
  refine JSR ?_
  refine JQ (Q_assign At.str) rfl ?_
  refine JQ (Q_assign At.bool) rfl ?_
  refine JNSSR ?_
  refine JM rfl rfl ?_
  refine JM rfl rfl ?_
  refine JQ (Q_call (slHasPre_c _ _ (by first | omega | simp <;> omega) (by first | omega | simp <;> omega)) ⟨(.tmp rfl), (.tmp rfl), trivial⟩) rfl ?_
  refine JQ (Q_not (.tmp rfl)) rfl ?_
  refine JN ?_
  refine J_cond (.tmp rfl) (fun h0 => ?_) (fun h0 => ?_)
  · try simp only [BS, ne_eq] at h0
    refine JSR ?_
    refine JM rfl rfl ?_
    refine JA rfl rfl ?_
    refine JQ (Q_assign At.bool) rfl ?_
    refine JN ?_
    refine J_retc ?_
    refine J_then_ret ?_
    exact J_ret2 rfl (ResAt.tmp rfl) (ResAt.tmp rfl) () trivial Split.nil (imp_eq (by simp [cutPre, h0]))
  try simp only [BS, ne_eq] at h0
  have hpl : p.length ≤ s.length := (List.isPrefixOf_iff_prefix.1 h0).length_le
  refine J_skip ?_
  refine J_then_normal ?_
  refine JSR ?_
  refine JM rfl rfl ?_
  refine JM rfl rfl ?_
  refine JQ (Q_lens Tryz.underlying9 rfl (.tmp rfl)) rfl ?_
  refine JQ (Q_slices Tryz.underlying9 (.tmp rfl) ⟨_, (.tmp rfl)⟩ rfl (by first | omega | simp <;> omega) (by first | omega | simp <;> omega) (by first | omega | simp <;> omega)) rfl ?_
  refine JA rfl rfl ?_
  refine JQ (Q_assign At.bool) rfl ?_
  refine JN ?_
  refine J_retc ?_
  exact J_ret2 rfl (ResAt.tmp rfl) (ResAt.tmp rfl) () trivial Split.nil (imp_eq (by simp [cutPre, h0]))
theorem strCutPre_c (s p : Bytes) (hs : s.length ≤ 4611686018427387904) (hp : p.length ≤ 4611686018427387904) : FnP Tryz.prog 89 [VStr s, VStr p] (VTup [VStr (cutPre s p).1, VBool (cutPre s p).2]) := by
  refine FnP_intro (by kernel_rfl) Tryz.func89 rfl Tryz.ntmps89 rfl (fun e => ?_)
  refine JSR ?_
  refine JQ (Q_assign At.str) rfl ?_
  refine JQ (Q_assign At.bool) rfl ?_
  refine JNSR ?_
  refine JM rfl rfl ?_
  refine JM rfl rfl ?_
  refine JQ (Q_call (slCutPre_c _ _ (by first | omega | simp <;> omega) (by first | omega | simp <;> omega)) ⟨(.tmp rfl), (.tmp rfl), trivial⟩) rfl ?_
  refine JQ (Q_extract (.tmp rfl) rfl) rfl ?_
  refine JQ (Q_extract (.tmp rfl) rfl) rfl ?_
  refine JA rfl rfl ?_
  refine JA rfl rfl ?_
  refine JN ?_
  refine J_retc ?_
  exact J_ret2 rfl (ResAt.tmp rfl) (ResAt.tmp rfl) () trivial Split.nil imp_refl
theorem word_c (k : Int) : FnP Tryz.prog 73 [VInt .i64 k] (VStr (wordB k)) := by
  refine FnP_intro (by kernel_rfl) Tryz.func73 rfl Tryz.ntmps73 rfl (fun e => ?_)
  refine JSR ?_
  refine JQ (Q_assign At.str) rfl ?_
  refine JNSSR ?_
  refine JM rfl rfl ?_
  refine JN ?_
  refine J_block ?_
  refine JSR ?_
  refine JQ (Q_eql (.tmp rfl) At.int) rfl ?_
  refine JA rfl rfl ?_
  refine JN ?_
  refine J_cond (.tmp rfl) (fun h0 => ?_) (fun h0 => ?_)
  · try simp only [BS, ne_eq] at h0
    refine JSR ?_
    refine JQ (Q_assign At.str) rfl ?_
    refine JN ?_
    refine J_retc ?_
    refine J_blk_ret ?_
    refine J_then_ret ?_
    exact J_ret1 rfl (ResAt.tmp rfl) () trivial Split.nil (imp_eq (by simp_all [wordB]))
  try simp only [BS, ne_eq] at h0
  refine JSR ?_
  refine JQ (Q_eql (.tmp rfl) At.int) rfl ?_
  refine JA rfl rfl ?_
  refine JN ?_
  refine J_cond (.tmp rfl) (fun h1 => ?_) (fun h1 => ?_)
  · try simp only [BS, ne_eq] at h1
    refine JSR ?_
    refine JQ (Q_assign At.str) rfl ?_
    refine JN ?_
    refine J_retc ?_
    refine J_blk_ret ?_
    refine J_then_ret ?_
    exact J_ret1 rfl (ResAt.tmp rfl) () trivial Split.nil (imp_eq (by simp_all [wordB]))
  try simp only [BS, ne_eq] at h1
  refine JSR ?_
  refine JQ (Q_eql (.tmp rfl) At.int) rfl ?_
  refine JA rfl rfl ?_
  refine JN ?_
  refine J_cond (.tmp rfl) (fun h2 => ?_) (fun h2 => ?_)
  · try simp only [BS, ne_eq] at h2
    refine JSR ?_
    refine JQ (Q_assign At.str) rfl ?_
    refine JN ?_
    refine J_retc ?_
    refine J_blk_ret ?_
    refine J_then_ret ?_
    exact J_ret1 rfl (ResAt.tmp rfl) () trivial Split.nil (imp_eq (by simp_all [wordB]))
  try simp only [BS, ne_eq] at h2
  refine JSR ?_
  refine JQ (Q_eql (.tmp rfl) At.int) rfl ?_
  refine JA rfl rfl ?_
  refine JN ?_
  refine J_cond (.tmp rfl) (fun h3 => ?_) (fun h3 => ?_)
  · try simp only [BS, ne_eq] at h3
    refine JSR ?_
    refine JQ (Q_assign At.str) rfl ?_
    refine JN ?_
    refine J_retc ?_
    refine J_blk_ret ?_
    refine J_then_ret ?_
    exact J_ret1 rfl (ResAt.tmp rfl) () trivial Split.nil (imp_eq (by simp_all [wordB]))
  try simp only [BS, ne_eq] at h3
  refine J_skip ?_
  refine J_blk_normal ?_
  refine J_then_normal ?_
  refine JSR ?_
  refine JQ (Q_assign At.str) rfl ?_
  refine JN ?_
  refine J_retc ?_
  exact J_ret1 rfl (ResAt.tmp rfl) () trivial Split.nil (imp_eq (by simp_all [wordB]))
theorem text_c (s : Bytes) (m : Int) (hs : s.length ≤ 4611686018427387904) : FnP Tryz.prog 90 [VStr s, VInt .i64 m] (VBool (textB s m)) := by
  refine FnP_intro (by kernel_rfl) Tryz.func90 rfl Tryz.ntmps90 rfl (fun e => ?_)
  refine JSR ?_
  refine JQ (Q_assign At.bool) rfl ?_
  refine JNSR ?_
  refine JM rfl rfl ?_
  refine JQ (Q_neqs (.tmp rfl) At.str) rfl ?_
  refine JM rfl rfl ?_
  refine J_qstep (QG rfl rfl rfl rfl rfl opt_bool (fun hg => Q_move (.tmp rfl))) rfl rfl ?_
  refine J_qstep (QG rfl rfl rfl rfl rfl opt_bool (fun hg => (by have hg0 := hg; simp only [BS, ne_eq] at hg0; exact Q_lens Tryz.underlying9 rfl (At.opt rfl (by first | exact hg | (simp only [BS, ne_eq] at hg ⊢; first | exact hg | simp_all)))))) rfl rfl ?_
  refine J_qstep (QG rfl rfl rfl rfl rfl opt_bool (fun hg => Q_move (.tmp rfl))) rfl rfl ?_
  refine J_qstep (QG rfl rfl rfl rfl rfl opt_bool (fun hg => (by have hg0 := hg; simp only [BS, ne_eq] at hg0; exact Q_leq (At.opt rfl (by first | exact hg | (simp only [BS, ne_eq] at hg ⊢; first | exact hg | simp_all))) (At.opt rfl (by first | exact hg | (simp only [BS, ne_eq] at hg ⊢; first | exact hg | simp_all)))))) rfl rfl ?_
  refine JQ (Q_andB (.tmp rfl) (fun hb => At.opt rfl (by simp only [BS, ne_eq] at hb ⊢; first | exact hb | simp_all))) rfl ?_
  refine JM rfl rfl ?_
  refine J_qstep (QG rfl rfl rfl rfl rfl opt_bool (fun hg => Q_move (.tmp rfl))) rfl rfl ?_
  refine J_qstep (QG rfl rfl rfl rfl rfl opt_bool (fun hg => (by have hg0 := hg; simp only [BS, ne_eq] at hg0; exact Q_call (strIdxByte_c _ _) ⟨(At.opt rfl (by first | exact hg | (simp only [BS, ne_eq] at hg ⊢; first | exact hg | simp_all))), (At.k8 (z := 0) (by decide)), trivial⟩))) rfl rfl ?_
  refine J_qstep (QG rfl rfl rfl rfl rfl opt_bool (fun hg => (by have hg0 := hg; simp only [BS, ne_eq] at hg0; exact Q_lss (At.opt rfl (by first | exact hg | (simp only [BS, ne_eq] at hg ⊢; first | exact hg | simp_all))) At.int))) rfl rfl ?_
  refine JQ (Q_andB (.tmp rfl) (fun hb => At.opt rfl (by simp only [BS, ne_eq] at hb ⊢; first | exact hb | simp_all))) rfl ?_
  refine JM rfl rfl ?_
  refine J_qstep (QG rfl rfl rfl rfl rfl opt_bool (fun hg => Q_move (.tmp rfl))) rfl rfl ?_
  refine J_qstep (QG rfl rfl rfl rfl rfl opt_bool (fun hg => (by have hg0 := hg; simp only [BS, ne_eq] at hg0; exact Q_call (strIdxByte_c _ _) ⟨(At.opt rfl (by first | exact hg | (simp only [BS, ne_eq] at hg ⊢; first | exact hg | simp_all))), (At.k8 (z := 10) (by decide)), trivial⟩))) rfl rfl ?_
  refine J_qstep (QG rfl rfl rfl rfl rfl opt_bool (fun hg => (by have hg0 := hg; simp only [BS, ne_eq] at hg0; exact Q_lss (At.opt rfl (by first | exact hg | (simp only [BS, ne_eq] at hg ⊢; first | exact hg | simp_all))) At.int))) rfl rfl ?_
  refine JQ (Q_andB (.tmp rfl) (fun hb => At.opt rfl (by simp only [BS, ne_eq] at hb ⊢; first | exact hb | simp_all))) rfl ?_
  refine JA rfl rfl ?_
  refine JN ?_
  refine J_retc ?_
  exact J_ret1 rfl (ResAt.tmp rfl) () trivial Split.nil (imp_eq (vbool_eq (by simp [textB, idxB_lt0])))
theorem named_c (s : Bytes) (hs : s.length ≤ 4611686018427387904) : FnP Tryz.prog 99 [VStr s] (VBool (namedB s)) := by
  refine FnP_intro (by kernel_rfl) Tryz.func99 rfl Tryz.ntmps99 rfl (fun e => ?_)
  refine JSR ?_
  refine JQ (Q_assign At.bool) rfl ?_
  refine JNSSR ?_
  refine JM rfl rfl ?_
  refine JN ?_
  refine J_block ?_
  refine J_seq ?_
  refine JSR ?_
  refine JQ (Q_eqls (.tmp rfl) At.str) rfl ?_
  refine JA rfl rfl ?_
  refine JN ?_
  refine J_cond (.tmp rfl) (fun h0 => ?_) (fun h0 => ?_)
  · try simp only [BS, ne_eq] at h0
    refine J_skip ?_
    refine J_then_normal ?_
    refine J_cond (.tmp rfl) (fun h3 => ?_) (fun h3 => ?_)
    · try simp only [BS, ne_eq] at h3
      refine JSR ?_
      refine JQ (Q_assign At.bool) rfl ?_
      refine JN ?_
      refine J_retc ?_
      refine J_blk_ret ?_
      refine J_then_ret ?_
      exact J_ret1 rfl (ResAt.tmp rfl) () trivial Split.nil (imp_eq (vbool_eq (by simp_all [namedB, idxB_lt0])))
    try simp only [BS, ne_eq] at h3
    refine J_skip ?_
    refine J_blk_normal ?_
    refine J_then_normal ?_
    refine JSR ?_
    refine JM rfl rfl ?_
    refine JQ (Q_lens Tryz.underlying9 rfl (.tmp rfl)) rfl ?_
    refine JQ (Q_leq (.tmp rfl) At.int) rfl ?_
    refine JM rfl rfl ?_
    refine J_qstep (QG rfl rfl rfl rfl rfl opt_bool (fun hg => Q_move (.tmp rfl))) rfl rfl ?_
    refine J_qstep (QG rfl rfl rfl rfl rfl opt_bool (fun hg => (by have hg0 := hg; simp only [BS, ne_eq] at hg0; exact Q_call (strIdxByte_c _ _) ⟨(At.opt rfl (by first | exact hg | (simp only [BS, ne_eq] at hg ⊢; first | exact hg | simp_all))), (At.k8 (z := 47) (by decide)), trivial⟩))) rfl rfl ?_
    refine J_qstep (QG rfl rfl rfl rfl rfl opt_bool (fun hg => (by have hg0 := hg; simp only [BS, ne_eq] at hg0; exact Q_lss (At.opt rfl (by first | exact hg | (simp only [BS, ne_eq] at hg ⊢; first | exact hg | simp_all))) At.int))) rfl rfl ?_
    refine JQ (Q_andB (.tmp rfl) (fun hb => At.opt rfl (by simp only [BS, ne_eq] at hb ⊢; first | exact hb | simp_all))) rfl ?_
    refine JM rfl rfl ?_
    refine J_qstep (QG rfl rfl rfl rfl rfl opt_bool (fun hg => Q_move (.tmp rfl))) rfl rfl ?_
    refine J_qstep (QG rfl rfl rfl rfl rfl opt_bool (fun hg => (by have hg0 := hg; simp only [BS, ne_eq] at hg0; exact Q_call (strIdxByte_c _ _) ⟨(At.opt rfl (by first | exact hg | (simp only [BS, ne_eq] at hg ⊢; first | exact hg | simp_all))), (At.k8 (z := 0) (by decide)), trivial⟩))) rfl rfl ?_
    refine J_qstep (QG rfl rfl rfl rfl rfl opt_bool (fun hg => (by have hg0 := hg; simp only [BS, ne_eq] at hg0; exact Q_lss (At.opt rfl (by first | exact hg | (simp only [BS, ne_eq] at hg ⊢; first | exact hg | simp_all))) At.int))) rfl rfl ?_
    refine JQ (Q_andB (.tmp rfl) (fun hb => At.opt rfl (by simp only [BS, ne_eq] at hb ⊢; first | exact hb | simp_all))) rfl ?_
    refine JA rfl rfl ?_
    refine JN ?_
    refine J_retc ?_
    exact J_ret1 rfl (ResAt.tmp rfl) () trivial Split.nil (imp_eq (vbool_eq (by simp_all [namedB, idxB_lt0])))
  try simp only [BS, ne_eq] at h0
  refine JSR ?_
  refine JQ (Q_eqls (.tmp rfl) At.str) rfl ?_
  refine JA rfl rfl ?_
  refine JN ?_
  refine J_cond (.tmp rfl) (fun h1 => ?_) (fun h1 => ?_)
  · try simp only [BS, ne_eq] at h1
    refine J_skip ?_
    refine J_then_normal ?_
    refine J_cond (.tmp rfl) (fun h3 => ?_) (fun h3 => ?_)
    · try simp only [BS, ne_eq] at h3
      refine JSR ?_
      refine JQ (Q_assign At.bool) rfl ?_
      refine JN ?_
      refine J_retc ?_
      refine J_blk_ret ?_
      refine J_then_ret ?_
      exact J_ret1 rfl (ResAt.tmp rfl) () trivial Split.nil (imp_eq (vbool_eq (by simp_all [namedB, idxB_lt0])))
    try simp only [BS, ne_eq] at h3
    refine J_skip ?_
    refine J_blk_normal ?_
    refine J_then_normal ?_
    refine JSR ?_
    refine JM rfl rfl ?_
    refine JQ (Q_lens Tryz.underlying9 rfl (.tmp rfl)) rfl ?_
    refine JQ (Q_leq (.tmp rfl) At.int) rfl ?_
    refine JM rfl rfl ?_
    refine J_qstep (QG rfl rfl rfl rfl rfl opt_bool (fun hg => Q_move (.tmp rfl))) rfl rfl ?_
    refine J_qstep (QG rfl rfl rfl rfl rfl opt_bool (fun hg => (by have hg0 := hg; simp only [BS, ne_eq] at hg0; exact Q_call (strIdxByte_c _ _) ⟨(At.opt rfl (by first | exact hg | (simp only [BS, ne_eq] at hg ⊢; first | exact hg | simp_all))), (At.k8 (z := 47) (by decide)), trivial⟩))) rfl rfl ?_
    refine J_qstep (QG rfl rfl rfl rfl rfl opt_bool (fun hg => (by have hg0 := hg; simp only [BS, ne_eq] at hg0; exact Q_lss (At.opt rfl (by first | exact hg | (simp only [BS, ne_eq] at hg ⊢; first | exact hg | simp_all))) At.int))) rfl rfl ?_
    refine JQ (Q_andB (.tmp rfl) (fun hb => At.opt rfl (by simp only [BS, ne_eq] at hb ⊢; first | exact hb | simp_all))) rfl ?_
    refine JM rfl rfl ?_
    refine J_qstep (QG rfl rfl rfl rfl rfl opt_bool (fun hg => Q_move (.tmp rfl))) rfl rfl ?_
    refine J_qstep (QG rfl rfl rfl rfl rfl opt_bool (fun hg => (by have hg0 := hg; simp only [BS, ne_eq] at hg0; exact Q_call (strIdxByte_c _ _) ⟨(At.opt rfl (by first | exact hg | (simp only [BS, ne_eq] at hg ⊢; first | exact hg | simp_all))), (At.k8 (z := 0) (by decide)), trivial⟩))) rfl rfl ?_
    refine J_qstep (QG rfl rfl rfl rfl rfl opt_bool (fun hg => (by have hg0 := hg; simp only [BS, ne_eq] at hg0; exact Q_lss (At.opt rfl (by first | exact hg | (simp only [BS, ne_eq] at hg ⊢; first | exact hg | simp_all))) At.int))) rfl rfl ?_
    refine JQ (Q_andB (.tmp rfl) (fun hb => At.opt rfl (by simp only [BS, ne_eq] at hb ⊢; first | exact hb | simp_all))) rfl ?_
    refine JA rfl rfl ?_
    refine JN ?_
    refine J_retc ?_
    exact J_ret1 rfl (ResAt.tmp rfl) () trivial Split.nil (imp_eq (vbool_eq (by simp_all [namedB, idxB_lt0])))
  try simp only [BS, ne_eq] at h1
  refine JSR ?_
  refine JQ (Q_eqls (.tmp rfl) At.str) rfl ?_
  refine JA rfl rfl ?_
  refine JN ?_
  refine J_cond (.tmp rfl) (fun h2 => ?_) (fun h2 => ?_)
  · try simp only [BS, ne_eq] at h2
    refine J_skip ?_
    refine J_then_normal ?_
    refine J_cond (.tmp rfl) (fun h3 => ?_) (fun h3 => ?_)
    · try simp only [BS, ne_eq] at h3
      refine JSR ?_
      refine JQ (Q_assign At.bool) rfl ?_
      refine JN ?_
      refine J_retc ?_
      refine J_blk_ret ?_
      refine J_then_ret ?_
      exact J_ret1 rfl (ResAt.tmp rfl) () trivial Split.nil (imp_eq (vbool_eq (by simp_all [namedB, idxB_lt0])))
    try simp only [BS, ne_eq] at h3
    refine J_skip ?_
    refine J_blk_normal ?_
    refine J_then_normal ?_
    refine JSR ?_
    refine JM rfl rfl ?_
    refine JQ (Q_lens Tryz.underlying9 rfl (.tmp rfl)) rfl ?_
    refine JQ (Q_leq (.tmp rfl) At.int) rfl ?_
    refine JM rfl rfl ?_
    refine J_qstep (QG rfl rfl rfl rfl rfl opt_bool (fun hg => Q_move (.tmp rfl))) rfl rfl ?_
    refine J_qstep (QG rfl rfl rfl rfl rfl opt_bool (fun hg => (by have hg0 := hg; simp only [BS, ne_eq] at hg0; exact Q_call (strIdxByte_c _ _) ⟨(At.opt rfl (by first | exact hg | (simp only [BS, ne_eq] at hg ⊢; first | exact hg | simp_all))), (At.k8 (z := 47) (by decide)), trivial⟩))) rfl rfl ?_
    refine J_qstep (QG rfl rfl rfl rfl rfl opt_bool (fun hg => (by have hg0 := hg; simp only [BS, ne_eq] at hg0; exact Q_lss (At.opt rfl (by first | exact hg | (simp only [BS, ne_eq] at hg ⊢; first | exact hg | simp_all))) At.int))) rfl rfl ?_
    refine JQ (Q_andB (.tmp rfl) (fun hb => At.opt rfl (by simp only [BS, ne_eq] at hb ⊢; first | exact hb | simp_all))) rfl ?_
    refine JM rfl rfl ?_
    refine J_qstep (QG rfl rfl rfl rfl rfl opt_bool (fun hg => Q_move (.tmp rfl))) rfl rfl ?_
    refine J_qstep (QG rfl rfl rfl rfl rfl opt_bool (fun hg => (by have hg0 := hg; simp only [BS, ne_eq] at hg0; exact Q_call (strIdxByte_c _ _) ⟨(At.opt rfl (by first | exact hg | (simp only [BS, ne_eq] at hg ⊢; first | exact hg | simp_all))), (At.k8 (z := 0) (by decide)), trivial⟩))) rfl rfl ?_
    refine J_qstep (QG rfl rfl rfl rfl rfl opt_bool (fun hg => (by have hg0 := hg; simp only [BS, ne_eq] at hg0; exact Q_lss (At.opt rfl (by first | exact hg | (simp only [BS, ne_eq] at hg ⊢; first | exact hg | simp_all))) At.int))) rfl rfl ?_
    refine JQ (Q_andB (.tmp rfl) (fun hb => At.opt rfl (by simp only [BS, ne_eq] at hb ⊢; first | exact hb | simp_all))) rfl ?_
    refine JA rfl rfl ?_
    refine JN ?_
    refine J_retc ?_
    exact J_ret1 rfl (ResAt.tmp rfl) () trivial Split.nil (imp_eq (vbool_eq (by simp_all [namedB, idxB_lt0])))
  try simp only [BS, ne_eq] at h2
  refine J_region ?_
  refine JQ (Q_eqls (.tmp rfl) At.str) rfl ?_
  refine JA rfl rfl ?_
  refine JN ?_
  refine J_cond (.tmp rfl) (fun h3 => ?_) (fun h3 => ?_)
  · try simp only [BS, ne_eq] at h3
    refine JSR ?_
    refine JQ (Q_assign At.bool) rfl ?_
    refine JN ?_
    refine J_retc ?_
    refine J_blk_ret ?_
    refine J_then_ret ?_
    exact J_ret1 rfl (ResAt.tmp rfl) () trivial Split.nil (imp_eq (vbool_eq (by simp_all [namedB, idxB_lt0])))
  try simp only [BS, ne_eq] at h3
  refine J_skip ?_
  refine J_blk_normal ?_
  refine J_then_normal ?_
  refine JSR ?_
  refine JM rfl rfl ?_
  refine JQ (Q_lens Tryz.underlying9 rfl (.tmp rfl)) rfl ?_
  refine JQ (Q_leq (.tmp rfl) At.int) rfl ?_
  refine JM rfl rfl ?_
  refine J_qstep (QG rfl rfl rfl rfl rfl opt_bool (fun hg => Q_move (.tmp rfl))) rfl rfl ?_
  refine J_qstep (QG rfl rfl rfl rfl rfl opt_bool (fun hg => (by have hg0 := hg; simp only [BS, ne_eq] at hg0; exact Q_call (strIdxByte_c _ _) ⟨(At.opt rfl (by first | exact hg | (simp only [BS, ne_eq] at hg ⊢; first | exact hg | simp_all))), (At.k8 (z := 47) (by decide)), trivial⟩))) rfl rfl ?_
  refine J_qstep (QG rfl rfl rfl rfl rfl opt_bool (fun hg => (by have hg0 := hg; simp only [BS, ne_eq] at hg0; exact Q_lss (At.opt rfl (by first | exact hg | (simp only [BS, ne_eq] at hg ⊢; first | exact hg | simp_all))) At.int))) rfl rfl ?_
  refine JQ (Q_andB (.tmp rfl) (fun hb => At.opt rfl (by simp only [BS, ne_eq] at hb ⊢; first | exact hb | simp_all))) rfl ?_
  refine JM rfl rfl ?_
  refine J_qstep (QG rfl rfl rfl rfl rfl opt_bool (fun hg => Q_move (.tmp rfl))) rfl rfl ?_
  refine J_qstep (QG rfl rfl rfl rfl rfl opt_bool (fun hg => (by have hg0 := hg; simp only [BS, ne_eq] at hg0; exact Q_call (strIdxByte_c _ _) ⟨(At.opt rfl (by first | exact hg | (simp only [BS, ne_eq] at hg ⊢; first | exact hg | simp_all))), (At.k8 (z := 0) (by decide)), trivial⟩))) rfl rfl ?_
  refine J_qstep (QG rfl rfl rfl rfl rfl opt_bool (fun hg => (by have hg0 := hg; simp only [BS, ne_eq] at hg0; exact Q_lss (At.opt rfl (by first | exact hg | (simp only [BS, ne_eq] at hg ⊢; first | exact hg | simp_all))) At.int))) rfl rfl ?_
  refine JQ (Q_andB (.tmp rfl) (fun hb => At.opt rfl (by simp only [BS, ne_eq] at hb ⊢; first | exact hb | simp_all))) rfl ?_
  refine JA rfl rfl ?_
  refine JN ?_
  refine J_retc ?_
  exact J_ret1 rfl (ResAt.tmp rfl) () trivial Split.nil (imp_eq (vbool_eq (by simp_all [namedB, idxB_lt0])))
theorem isHex_c (s : Bytes) (hs : s.length ≤ 4611686018427387904) : FnP Tryz.prog 128 [VStr s] (VBool (isHexB s)) := by
  refine FnP_intro (by kernel_rfl) Tryz.func128 rfl Tryz.ntmps128 rfl (fun e => ?_)
  refine JSR ?_
  refine JQ (Q_assign At.bool) rfl ?_
  refine JNSSR ?_
  refine JM rfl rfl ?_
  refine JQ (Q_lens Tryz.underlying9 rfl (.tmp rfl)) rfl ?_
  refine JQ (Q_move At.int) rfl ?_
  refine JN ?_
  refine J_block ?_
  refine J_loopU (ι := Nat) (fun k => k ≤ s.length ∧ ∀ j (h : j < s.length), j < k → s[j] ∈ hexDigits) (fun k => [(6, VInt .i64 (k : Nat))]) [(0, _), (5, _)] (fun k => []) (fun k => s.length - k) (0) ⟨by omega, by intros; omega⟩ ⟨fe rfl (by first | rfl | exact vint_eq (by first | omega | simp <;> omega) | exact vsl_eq (by simp) | exact vstr_eq (by simp)), trivial⟩ ⟨rfl, rfl, trivial⟩ Has.nil (fun k hq => ?_)
  obtain ⟨hk, hn⟩ := hq
  refine JSR ?_
  refine JQ (Q_lss (.tmp rfl) (.tmp rfl)) rfl ?_
  refine JN ?_
  refine J_seq ?_
  refine J_cond (.tmp rfl) (fun h0 => ?_) (fun h0 => ?_)
  · try simp only [BS, ne_eq] at h0
    refine J_skip ?_
    refine J_then_normal ?_
    refine J_seq ?_
    refine J_block ?_
    refine JSR ?_
    refine JM rfl rfl ?_
    refine JA rfl rfl ?_
    refine JNSR ?_
    refine JM rfl rfl ?_
    refine JM rfl rfl ?_
    refine JQ (by first | exact Q_idxsN Tryz.underlying9 (.tmp rfl) (.tmp rfl) (by first | omega | simp <;> omega) | exact Q_idxs Tryz.underlying9 (.tmp rfl) (.tmp rfl) (by first | omega | simp <;> omega) (by first | omega | simp <;> omega)) rfl ?_
    refine JQ (Q_call (strIdxByte_c _ _) ⟨At.str, (.tmp rfl), trivial⟩) rfl ?_
    refine JQ (Q_lss (.tmp rfl) At.int) rfl ?_
    refine JN ?_
    refine J_cond (.tmp rfl) (fun h1 => ?_) (fun h1 => ?_)
    · try simp only [BS, ne_eq] at h1
      refine JSR ?_
      refine JQ (Q_assign At.bool) rfl ?_
      refine JN ?_
      refine J_retc ?_
      refine J_blk_ret ?_
      refine J_then_ret ?_
      refine J_then_ret ?_
      refine J_blk_ret ?_
      refine J_then_ret ?_
      exact J_ret1 rfl (ResAt.tmp rfl) () trivial Split.nil (imp_eq (vbool_eq (by have := (idxB_lt0 hexDigits s[k]).1 h1; simp [isHexB]; exact ⟨s[k], List.getElem_mem _, this⟩)))
    try simp only [BS, ne_eq] at h1
    refine J_skip ?_
    refine J_blk_normal ?_
    refine J_then_normal ?_
    refine J_region ?_
    refine JQ (Q_addi (.tmp rfl) At.int (by first | omega | simp <;> omega) (by first | omega | simp <;> omega)) rfl ?_
    refine JM rfl rfl ?_
    refine JN ?_
    refine J_back (k + 1) ?_ ?_ ?_ ?_
    · exact ⟨⟨by omega, by intro j h hj; by_cases e : j = k; (subst e; exact Classical.byContradiction fun hc => by have := (idxB_lt0 hexDigits s[j]).2 hc; simp [hexDigits] at this h1; omega); exact hn j h (by first | omega | simp <;> omega)⟩, by omega⟩
    · exact ⟨fe rfl (by first | rfl | exact vint_eq (by first | omega | simp <;> omega) | exact vsl_eq (by simp) | exact vstr_eq (by simp)), trivial⟩
    · exact ⟨rfl, rfl, trivial⟩
    · exact Has.nil
  try simp only [BS, ne_eq] at h0
  refine J_exit ?_
  refine J_then_exit ?_
  refine J_then_exit ?_
  refine J_blk_out ?_
  refine J_then_normal ?_
  refine JSR ?_
  refine JQ (Q_assign At.bool) rfl ?_
  refine JN ?_
  refine J_retc ?_
  exact J_ret1 rfl (ResAt.tmp rfl) () trivial Split.nil (imp_eq (vbool_eq (by simp [isHexB, List.all_eq_true]; intro x hx; obtain ⟨j, hj, rfl⟩ := List.mem_iff_getElem.1 hx; exact hn j hj (by first | omega | simp <;> omega))))
def kindB (w : Bs) : Int × Bool := if w = wordB 1 then (1, true) else if w = wordB 2 then (2, true) else if w = wordB 3 then (3, true) else if w = wordB 4 then (4, true) else (0, false)
theorem kindOf_c (s : Bytes) : FnP Tryz.prog 102 [VStr s] (VTup [VInt .i64 (kindB s).1, VBool (kindB s).2]) := by
  refine FnP_intro (by kernel_rfl) Tryz.func102 rfl Tryz.ntmps102 rfl (fun e => ?_)
  refine JSR ?_
  refine JQ (Q_assign At.int) rfl ?_
  refine JQ (Q_assign At.bool) rfl ?_
  refine JNSSR ?_
  refine JQ (Q_assign At.int) rfl ?_
  refine JN ?_
  refine J_block ?_
  refine J_loopU (ι := Nat) (fun k => 1 ≤ k ∧ k ≤ 5 ∧ ∀ j : Nat, 1 ≤ j → j < k → s ≠ wordB j) (fun k => [(4, VInt .i64 (k : Nat))]) [(0, _)] (fun k => []) (fun k => 5 - k) (1) ⟨by omega, by omega, by intros; omega⟩ ⟨fe rfl (by first | rfl | exact vint_eq (by first | omega | simp <;> omega) | exact vsl_eq (by simp) | exact vstr_eq (by simp)), trivial⟩ ⟨rfl, trivial⟩ Has.nil (fun k hq => ?_)
  obtain ⟨hk1, hk, hn⟩ := hq
  refine J_seq ?_
  refine JSR ?_
  refine JM rfl rfl ?_
  refine JQ (Q_leq (.tmp rfl) At.int) rfl ?_
  refine JN ?_
  refine J_cond (.tmp rfl) (fun h0 => ?_) (fun h0 => ?_)
  · try simp only [BS, ne_eq] at h0
    refine J_skip ?_
    refine J_then_normal ?_
    refine J_seq ?_
    refine J_block ?_
    refine JSR ?_
    refine JM rfl rfl ?_
    refine JQ (Q_call (word_c _) ⟨(.tmp rfl), trivial⟩) rfl ?_
    refine JM rfl rfl ?_
    refine JQ (Q_eqls (.tmp rfl) (.tmp rfl)) rfl ?_
    refine JN ?_
    refine J_cond (.tmp rfl) (fun h1 => ?_) (fun h1 => ?_)
    · try simp only [BS, ne_eq] at h1
      refine JSR ?_
      refine JM rfl rfl ?_
      refine JA rfl rfl ?_
      refine JQ (Q_assign At.bool) rfl ?_
      refine JN ?_
      refine J_retc ?_
      refine J_blk_ret ?_
      refine J_then_ret ?_
      refine J_then_ret ?_
      refine J_blk_ret ?_
      refine J_then_ret ?_
      exact J_ret2 rfl (ResAt.tmp rfl) (ResAt.tmp rfl) () trivial Split.nil (imp_eq (by have e : k = 1 ∨ k = 2 ∨ k = 3 ∨ k = 4 := (by first | omega | simp <;> omega); rcases e with rfl | rfl | rfl | rfl <;> subst h1 <;> rfl))
    try simp only [BS, ne_eq] at h1
    refine J_skip ?_
    refine J_blk_normal ?_
    refine J_then_normal ?_
    refine J_region ?_
    refine JM rfl rfl ?_
    refine JQ (Q_addi (.tmp rfl) At.int (by first | omega | simp <;> omega) (by first | omega | simp <;> omega)) rfl ?_
    refine JA rfl rfl ?_
    refine JN ?_
    refine J_back (k + 1) ?_ ?_ ?_ ?_
    · exact ⟨⟨by omega, by omega, by intro j h hj; by_cases e : j = k; (subst e; exact fun hc => h1 hc.symm); exact hn j h (by first | omega | simp <;> omega)⟩, by omega⟩
    · exact ⟨fe rfl (by first | rfl | exact vint_eq (by first | omega | simp <;> omega) | exact vsl_eq (by simp) | exact vstr_eq (by simp)), trivial⟩
    · exact ⟨rfl, trivial⟩
    · exact Has.nil
  try simp only [BS, ne_eq] at h0
  refine J_exit ?_
  refine J_then_exit ?_
  refine J_then_exit ?_
  refine J_blk_out ?_
  refine J_then_normal ?_
  refine JSR ?_
  refine JQ (Q_assign At.int) rfl ?_
  refine JQ (Q_assign At.bool) rfl ?_
  refine JN ?_
  refine J_retc ?_
  exact J_ret2 rfl (ResAt.tmp rfl) (ResAt.tmp rfl) () trivial Split.nil (imp_eq (by have a : s ≠ wordB 1 := hn 1 (by first | omega | simp <;> omega) (by first | omega | simp <;> omega); have b : s ≠ wordB 2 := hn 2 (by first | omega | simp <;> omega) (by first | omega | simp <;> omega); have c : s ≠ wordB 3 := hn 3 (by first | omega | simp <;> omega) (by first | omega | simp <;> omega); have d : s ≠ wordB 4 := hn 4 (by first | omega | simp <;> omega) (by first | omega | simp <;> omega); simp only [kindB]; rw [if_neg a, if_neg b, if_neg c, if_neg d]))
end Go.Sep
namespace Go.Sep
open Go Go.Proofs
open Enc (V)
attribute [local irreducible] Quiet QStep J At FnX Fn FnP Repl Split Has Post Back GoZ
def parseN (s : Bs) : Nat → Oid
  | 0 => GoZero.z
  | k + 1 => (parseN s k).set (k / 2) (shl8 ((parseN s k).l.getD (k / 2) 0) 4 ||| toU8 (Lib.indexByte hexDigits (s.getD k 0)))
def parseB (s : Bs) : Oid × Int := if s.length = 40 ∧ isHexB s = true then (parseN s 40, 0) else (GoZero.z, 2)
theorem parse_c (s : Bytes) (hs : s.length ≤ 4611686018427387904) : FnP Tryz.prog 87 [VStr s] (VTup [V (parseB s).1, VInt .i64 (parseB s).2]) := by
  refine FnP_intro (by kernel_rfl) Tryz.func87 rfl Tryz.ntmps87 rfl (fun e => ?_)
  refine JSR ?_
  refine J_alloc Z38 rfl (fun b2 => ?_)
  refine JQ (Q_assign At.int) rfl ?_
  refine JNSR ?_
  refine J_alloc Z38 rfl (fun b4 => ?_)
  refine JNSSR ?_
  refine JM rfl rfl ?_
  refine JQ (Q_lens Tryz.underlying9 rfl (.tmp rfl)) rfl ?_
  refine JQ (Q_neq (.tmp rfl) At.int) rfl ?_
  refine JM rfl rfl ?_
  refine J_qstep (QG rfl rfl rfl rfl rfl opt_bool (fun hg => Q_move (.tmp rfl))) rfl rfl ?_
  refine J_qstep (QG rfl rfl rfl rfl rfl opt_bool (fun hg => (by have hg0 := hg; simp only [BS, ne_eq] at hg0; exact Q_call (isHex_c _ (by first | omega | simp <;> omega)) ⟨(At.opt rfl (by first | exact hg | (simp only [BS, ne_eq] at hg ⊢; first | exact hg | simp_all))), trivial⟩))) rfl rfl ?_
  refine J_qstep (QG rfl rfl rfl rfl rfl opt_bool (fun hg => (by have hg0 := hg; simp only [BS, ne_eq] at hg0; exact Q_not (At.opt rfl (by first | exact hg | (simp only [BS, ne_eq] at hg ⊢; first | exact hg | simp_all)))))) rfl rfl ?_
  refine JQ (Q_orB (.tmp rfl) (fun hb => At.opt rfl (by simp only [BS, ne_eq] at hb ⊢; first | exact hb | simp_all))) rfl ?_
  refine JN ?_
  refine J_cond (.tmp rfl) (fun h0 => ?_) (fun h0 => ?_)
  · try simp only [BS, ne_eq] at h0
    refine JSR ?_
    refine JQ (Q_loadB (.tmp rfl) (by repeat first | exact R0 | apply RT) Lens.id T38 (by (try dsimp only) <;> rfl)) rfl ?_
    refine J_store (.tmp rfl) (.tmp rfl) (by (try dsimp only) <;> rfl) (by repeat first | exact R1 | apply RT) Lens.id T38.size ?_
    refine JQ (Q_assign At.int) rfl ?_
    refine JN ?_
    refine J_retc ?_
    refine J_then_ret ?_
    exact J_ret2 rfl (ResAt.box rfl (by repeat first | exact R0 | apply RT) T38) (ResAt.tmp rfl) () trivial Split.nil (imp_eq (by unfold parseB; rw [if_neg (by intro h; simp_all)]))
  try simp only [BS, ne_eq] at h0
  refine J_skip ?_
  refine J_then_normal ?_
  refine J_seq ?_
  refine JSR ?_
  refine JM rfl rfl ?_
  refine JQ (Q_lens Tryz.underlying9 rfl (.tmp rfl)) rfl ?_
  refine JQ (Q_move At.int) rfl ?_
  refine JN ?_
  refine J_block ?_
  refine J_loopU (ι := Nat) (fun k => k ≤ 40) (fun k => [(17, VInt .i64 (k : Nat))]) [(0, _), (2, _), (3, _), (4, _), (16, _)] (fun k => [BoxR 38 b4 (parseN s k), BoxR 38 b2 (GoZero.z : Oid)]) (fun k => 40 - k) (0) (by first | omega | simp <;> omega) ⟨fe rfl (by first | rfl | exact vint_eq (by first | omega | simp <;> omega) | exact vsl_eq (by simp) | exact vstr_eq (by simp)), trivial⟩ ⟨rfl, rfl, rfl, rfl, rfl, trivial⟩ (Has.take (Repl.box (by repeat first | exact R0 | apply RT) (by first | rfl | simp)) (Has.take (Repl.box (by repeat first | exact R0 | apply RT) (by first | rfl | simp)) Has.nil)) (fun k hq => ?_)
  obtain hk := hq
  refine JSR ?_
  refine JQ (Q_lss (.tmp rfl) (.tmp rfl)) rfl ?_
  refine JN ?_
  refine J_seq ?_
  refine J_cond (.tmp rfl) (fun h1 => ?_) (fun h1 => ?_)
  · try simp only [BS, ne_eq] at h1
    refine J_skip ?_
    refine J_then_normal ?_
    refine J_seq ?_
    refine J_block ?_
    refine JSR ?_
    refine JM rfl rfl ?_
    refine JA rfl rfl ?_
    refine JN ?_
    refine J_draw mix 14 [20, 21, 22, 23, 24, 25, 26, 27, 28, 29, 30, 31, 32, 33] [_, _, _, _, _, _, _, _, _, _, _, _, _, _] rfl rfl (by kernel_rfl) (by kernel_rfl) (by kernel_rfl) (by kernel_rfl) (by kernel_rfl) ⟨QS (Q_move (.tmp rfl)) rfl, QS (Q_quoi (.tmp rfl) At.int (by first | omega | simp <;> omega) (by first | omega | simp <;> omega) (by first | omega | simp <;> omega)) rfl, QS (Q_move (.tmp rfl)) rfl, QS (Q_quoi (.tmp rfl) At.int (by first | omega | simp <;> omega) (by first | omega | simp <;> omega) (by first | omega | simp <;> omega)) rfl, QS (Q_idxAddrP Tryz.underlying38 T5.size (.tmp rfl) (.tmp rfl) (by first | omega | simp <;> omega) (by first | omega | simp <;> omega)) rfl, QS (Q_loadB (.tmp rfl) (by repeat first | exact R0 | apply RT) (Lens.idxO (_) (by first | (simp only [Nat.zero_add]; rfl) | rfl) (by first | omega | simp <;> omega)) T5 (by (try dsimp only) <;> rfl)) rfl, QS (Q_shl8 (c := 4) (.tmp rfl) At.int (by first | omega | simp <;> omega)) rfl, QS (Q_move (.tmp rfl)) rfl, QS (Q_move (.tmp rfl)) rfl, QS ((by first | exact Q_idxsN Tryz.underlying9 (.tmp rfl) (.tmp rfl) (by first | omega | simp <;> omega) | exact Q_idxs Tryz.underlying9 (.tmp rfl) (.tmp rfl) (by first | omega | simp <;> omega) (by first | omega | simp <;> omega))) rfl, QS (Q_call (strIdxByte_c _ _) ⟨At.str, (.tmp rfl), trivial⟩) rfl, QS (Q_to8 (.tmp rfl) (by kernel_rfl) Tryz.underlying5) rfl, QS (Q_or8 (.tmp rfl) (.tmp rfl)) rfl, QS (Q_idxAddrP Tryz.underlying38 T5.size (.tmp rfl) (.tmp rfl) (by first | omega | simp <;> omega) (by first | omega | simp <;> omega)) rfl, trivial⟩ ?_
    refine J_store (.tmp rfl) (.tmp rfl) (by (try dsimp only) <;> rfl) (by repeat first | exact R1 | apply RT) (Lens.idxO (_) (by first | (simp only [Nat.zero_add]; rfl) | rfl) (by first | omega | simp <;> omega)) T5.size ?_
    refine J_nil ?_
    refine J_blk_normal ?_
    refine J_then_normal ?_
    refine J_region ?_
    refine JQ (Q_addi (.tmp rfl) At.int (by first | omega | simp <;> omega) (by first | omega | simp <;> omega)) rfl ?_
    refine JM rfl rfl ?_
    refine JN ?_
    refine J_back (k + 1) ?_ ?_ ?_ ?_
    · exact ⟨by omega, by omega⟩
    · exact ⟨fe rfl (by first | rfl | exact vint_eq (by first | omega | simp <;> omega) | exact vsl_eq (by simp) | exact vstr_eq (by simp)), trivial⟩
    · exact ⟨rfl, rfl, rfl, rfl, rfl, trivial⟩
    · exact (Has.take (Repl.box (by repeat first | exact R0 | apply RT) (by (have e2 : ((k : Int) / 2).toNat = k / 2 := (by first | omega | simp <;> omega)); have e3 : k / 2 < (parseN s k).l.length := (by rw [(parseN s k).h]; omega); have e4 : k < s.length := (by first | omega | simp <;> omega); simp [parseN, Arr.get, hexDigits, e2, e3, e4])) (Has.take (Repl.box (by repeat first | exact R0 | apply RT) (by first | rfl | simp)) Has.nil))
  try simp only [BS, ne_eq] at h1
  refine J_exit ?_
  refine J_then_exit ?_
  refine J_then_exit ?_
  refine J_blk_out ?_
  refine J_then_normal ?_
  refine JSR ?_
  refine JQ (Q_loadB (.tmp rfl) (by repeat first | exact R0 | apply RT) Lens.id T38 (by (try dsimp only) <;> rfl)) rfl ?_
  refine J_store (.tmp rfl) (.tmp rfl) (by (try dsimp only) <;> rfl) (by repeat first | exact R1 | apply RT) Lens.id T38.size ?_
  refine JQ (Q_assign At.int) rfl ?_
  refine JN ?_
  refine J_retc ?_
  exact J_ret2 rfl (ResAt.box rfl (by repeat first | exact R0 | apply RT) T38) (ResAt.tmp rfl) () trivial Split.nil (imp_eq (by obtain rfl : k = 40 := (by first | omega | simp <;> omega); unfold parseB; rw [if_pos ⟨by omega, h0.2⟩]))
abbrev Lns := Str × Bool
theorem next_c {tb b : Nat} (s f : Bytes) (bad : Bool) (hs : s.length ≤ 16384) (hf : f.length ≤ 16384) : Fn Tryz.prog 66 [Ptr b 0, VStr f] [BoxR tb b ((⟨s⟩, bad) : Lns)] (fun _ : Unit => True)
    (fun _ => VTup [VStr (nextB s f).1, VBool (nextB s f).2.1]) (fun _ => [BoxR tb b ((⟨(nextB s f).2.2⟩, bad) : Lns)]) := by
  have hl1 := cutB_len s 10
  refine Fn_intro (by kernel_rfl) Tryz.func66 rfl Tryz.ntmps66 rfl (fun e => ?_)
  refine JSR ?_
  refine JQ (Q_assign At.str) rfl ?_
  refine JQ (Q_assign At.bool) rfl ?_
  refine JNSR ?_
  refine JM rfl rfl ?_
  refine JQ (Q_nilChkP (.tmp rfl)) rfl ?_
  refine JQ (Q_fieldAddrP F128_0 (by decide) (.tmp rfl)) rfl ?_
  refine JQ (Q_strOf (Q_loadB (.tmp rfl) (by repeat first | exact R0 | apply RT) (Lens.fst Lens.id) T9 (by (try dsimp only) <;> rfl)) (by (try dsimp only) <;> rfl)) rfl ?_
  refine JQ (Q_call (strCut_c _ _ (by first | omega | (simp; omega))) ⟨(.tmp rfl), At.str, trivial⟩) rfl ?_
  refine JM rfl rfl ?_
  refine JQ (Q_extract (.tmp rfl) rfl) rfl ?_
  refine JQ (Q_extract (.tmp rfl) rfl) rfl ?_
  refine JQ (Q_extract (.tmp rfl) rfl) rfl ?_
  refine JA rfl rfl ?_
  refine JA rfl rfl ?_
  refine JA rfl rfl ?_
  refine JNSR ?_
  refine JM rfl rfl ?_
  refine JM rfl rfl ?_
  refine JQ (Q_call (strCutPre_c _ _ (by first | omega | simp <;> omega) (by first | omega | simp <;> omega)) ⟨(.tmp rfl), (.tmp rfl), trivial⟩) rfl ?_
  refine JM rfl rfl ?_
  refine JQ (Q_extract (.tmp rfl) rfl) rfl ?_
  refine JQ (Q_extract (.tmp rfl) rfl) rfl ?_
  refine JA rfl rfl ?_
  refine JA rfl rfl ?_
  refine JNSSR ?_
  refine JM rfl rfl ?_
  refine JQ (Q_not (.tmp rfl)) rfl ?_
  refine JM rfl rfl ?_
  refine J_qstep (QG rfl rfl rfl rfl rfl opt_bool (fun hg => Q_move (.tmp rfl))) rfl rfl ?_
  refine J_qstep (QG rfl rfl rfl rfl rfl opt_bool (fun hg => (by have hg0 := hg; simp only [BS, ne_eq] at hg0; exact Q_not (At.opt rfl (by first | exact hg | (simp only [BS, ne_eq] at hg ⊢; first | exact hg | simp_all)))))) rfl rfl ?_
  refine JQ (Q_orB (.tmp rfl) (fun hb => At.opt rfl (by simp only [BS, ne_eq] at hb ⊢; first | exact hb | simp_all))) rfl ?_
  refine JN ?_
  refine J_cond (.tmp rfl) (fun h0 => ?_) (fun h0 => ?_)
  · try simp only [BS, ne_eq] at h0
    refine JSR ?_
    refine JQ (Q_assign At.str) rfl ?_
    refine JQ (Q_assign At.bool) rfl ?_
    refine JN ?_
    refine J_retc ?_
    refine J_then_ret ?_
    have hn : nextB s f = ([], false, s) := by unfold nextB; rw [if_neg (by intro hc; rcases h0 with h0 | h0 <;> simp [h0] at hc)]
    exact J_ret2 rfl (ResAt.tmp rfl) (ResAt.tmp rfl) () trivial (by rw [hn]; exact Split.self) (imp_eq (by rw [hn]))
  try simp only [BS, ne_eq] at h0
  refine J_skip ?_
  refine J_then_normal ?_
  refine JSR ?_
  refine JM rfl rfl ?_
  refine JM rfl rfl ?_
  refine JQ (Q_nilChkP (.tmp rfl)) rfl ?_
  refine JQ (Q_fieldAddrP F128_0 (by decide) (.tmp rfl)) rfl ?_
  refine J_store (.tmp rfl) (At.toStr (.tmp rfl)) (by (try dsimp only) <;> rfl) (by repeat first | exact R1 | apply RT) (Lens.fst Lens.id) T9.size ?_
  refine JNSR ?_
  refine JM rfl rfl ?_
  refine JA rfl rfl ?_
  refine JQ (Q_assign At.bool) rfl ?_
  refine JN ?_
  refine J_retc ?_
  have hn : nextB s f = ((cutPre (cutB s 10).1 f).1, true, (cutB s 10).2.1) := by unfold nextB; rw [if_pos (by simp_all)]
  exact J_ret2 rfl (ResAt.tmp rfl) (ResAt.tmp rfl) () trivial (by rw [hn]; exact Split.self) (imp_eq (by rw [hn]))
theorem must_c {tb b : Nat} (s f : Bytes) (bad : Bool) (hs : s.length ≤ 16384) (hf : f.length ≤ 16384) : Fn Tryz.prog 65 [Ptr b 0, VStr f] [BoxR tb b ((⟨s⟩, bad) : Lns)] (fun _ : Unit => True)
    (fun _ => VStr (nextB s f).1) (fun _ => [BoxR tb b ((⟨(nextB s f).2.2⟩, bad || !(nextB s f).2.1) : Lns)]) := by
  refine Fn_intro (by kernel_rfl) Tryz.func65 rfl Tryz.ntmps65 rfl (fun e => ?_)
  refine JSR ?_
  refine JQ (Q_assign At.str) rfl ?_
  refine JNSR ?_
  refine JM rfl rfl ?_
  refine JM rfl rfl ?_
  refine J_call (next_c _ _ _ ?_ ?_) ⟨(.tmp rfl), (.tmp rfl), trivial⟩ (Split.take (by repeat first | exact R0 | apply RT) Split.nil) rfl (fun r10 hr10 => ?_)
  · repeat (first | omega | refine Nat.le_trans (nextB_len _ _).2 ?_ | refine Nat.le_trans (nextB_len _ _).1 ?_)
  · exact (by first | omega | simp <;> omega)
  refine JM rfl rfl ?_
  refine JQ (Q_extract (.tmp rfl) rfl) rfl ?_
  refine JQ (Q_extract (.tmp rfl) rfl) rfl ?_
  refine JA rfl rfl ?_
  refine JA rfl rfl ?_
  refine JNSR ?_
  refine JM rfl rfl ?_
  refine JM rfl rfl ?_
  refine JQ (Q_nilChkP (.tmp rfl)) rfl ?_
  refine JQ (Q_fieldAddrP F128_1 (by decide) (.tmp rfl)) rfl ?_
  refine JQ (Q_loadB (.tmp rfl) (by repeat first | exact R0 | apply RT) (Lens.snd Lens.id (by first | rfl | (simp only [Enc.size, Nat.zero_add, Nat.mul_one, Nat.add_zero]; omega))) T4 (by (try dsimp only) <;> rfl)) rfl ?_
  refine JM rfl rfl ?_
  refine J_qstep (QG rfl rfl rfl rfl rfl opt_bool (fun hg => Q_move (.tmp rfl))) rfl rfl ?_
  refine J_qstep (QG rfl rfl rfl rfl rfl opt_bool (fun hg => (by have hg0 := hg; simp only [BS, ne_eq] at hg0; exact Q_not (At.opt rfl (by first | exact hg | (simp only [BS, ne_eq] at hg ⊢; first | exact hg | simp_all)))))) rfl rfl ?_
  refine JQ (Q_orB (.tmp rfl) (fun hb => At.opt rfl (by simp only [BS, ne_eq] at hb ⊢; first | exact hb | simp_all))) rfl ?_
  refine JQ (Q_nilChkP (.tmp rfl)) rfl ?_
  refine JQ (Q_fieldAddrP F128_1 (by decide) (.tmp rfl)) rfl ?_
  refine J_store (.tmp rfl) (.tmp rfl) (by (try dsimp only) <;> rfl) (by repeat first | exact R1 | apply RT) (Lens.snd Lens.id (by first | rfl | (simp only [Enc.size, Nat.zero_add, Nat.mul_one, Nat.add_zero]; omega))) T4.size ?_
  refine JNSR ?_
  refine JM rfl rfl ?_
  refine JA rfl rfl ?_
  refine JN ?_
  refine J_retc ?_
  exact J_ret1 rfl (ResAt.tmp rfl) () trivial Split.self imp_refl
theorem id_c {tb b : Nat} (s q : Bytes) (bad : Bool) (hq : q.length ≤ 16384) : Fn Tryz.prog 64 [Ptr b 0, VStr q] [BoxR tb b ((⟨s⟩, bad) : Lns)] (fun _ : Unit => True)
    (fun _ => V (parseB q).1) (fun _ => [BoxR tb b ((⟨s⟩, bad || decide ((parseB q).2 ≠ 0)) : Lns)]) := by
  refine Fn_intro (by kernel_rfl) Tryz.func64 rfl Tryz.ntmps64 rfl (fun e => ?_)
  refine JSR ?_
  refine J_alloc Z38 rfl (fun b4 => ?_)
  refine JNSR ?_
  refine JM rfl rfl ?_
  refine JQ (Q_call (parse_c _ (by first | omega | simp <;> omega)) ⟨(.tmp rfl), trivial⟩) rfl ?_
  refine JM rfl rfl ?_
  refine JQ (Q_extract (.tmp rfl) rfl) rfl ?_
  refine JQ (Q_extract (.tmp rfl) rfl) rfl ?_
  refine J_alloc Z38 rfl (fun b5 => ?_)
  refine J_store (.tmp rfl) (.tmp rfl) (by (try dsimp only) <;> rfl) (by repeat first | exact R1 | apply RT) Lens.id T38.size ?_
  refine J_freezeB (sl := 5) (by repeat first | exact R0 | apply RT) rfl ?_
  refine JA rfl rfl ?_
  refine JNSR ?_
  refine JM rfl rfl ?_
  refine JM rfl rfl ?_
  refine JQ (Q_nilChkP (.tmp rfl)) rfl ?_
  refine JQ (Q_fieldAddrP F128_1 (by decide) (.tmp rfl)) rfl ?_
  refine JQ (Q_loadB (.tmp rfl) (by repeat first | exact R0 | apply RT) (Lens.snd Lens.id (by first | rfl | (simp only [Enc.size, Nat.zero_add, Nat.mul_one, Nat.add_zero]; omega))) T4 (by (try dsimp only) <;> rfl)) rfl ?_
  refine JM rfl rfl ?_
  refine J_qstep (QG rfl rfl rfl rfl rfl opt_bool (fun hg => Q_move (.tmp rfl))) rfl rfl ?_
  refine J_qstep (QG rfl rfl rfl rfl rfl opt_bool (fun hg => (by have hg0 := hg; simp only [BS, ne_eq] at hg0; exact Q_neq (At.opt rfl (by first | exact hg | (simp only [BS, ne_eq] at hg ⊢; first | exact hg | simp_all))) At.int))) rfl rfl ?_
  refine JQ (Q_orB (.tmp rfl) (fun hb => At.opt rfl (by simp only [BS, ne_eq] at hb ⊢; first | exact hb | simp_all))) rfl ?_
  refine JQ (Q_nilChkP (.tmp rfl)) rfl ?_
  refine JQ (Q_fieldAddrP F128_1 (by decide) (.tmp rfl)) rfl ?_
  refine J_store (.tmp rfl) (.tmp rfl) (by (try dsimp only) <;> rfl) (by repeat first | exact R1 | apply RT) (Lens.snd Lens.id (by first | rfl | (simp only [Enc.size, Nat.zero_add, Nat.mul_one, Nat.add_zero]; omega))) T4.size ?_
  refine JNSR ?_
  refine JQ (Q_load (.tmp rfl) T38) rfl ?_
  refine J_store (.tmp rfl) (.tmp rfl) (by (try dsimp only) <;> rfl) (by repeat first | exact R1 | apply RT) Lens.id T38.size ?_
  refine JN ?_
  refine J_retc ?_
  exact J_ret1 rfl (ResAt.box rfl (by repeat first | exact R0 | apply RT) T38) () trivial (Split.take (by repeat first | exact R0 | apply RT) Split.nil) imp_refl
theorem empty_c {tb b : Nat} (s : Bytes) (bad : Bool) (hs : s.length ≤ 16384) : Fn Tryz.prog 67 [Ptr b 0] [BoxR tb b ((⟨s⟩, bad) : Lns)] (fun _ : Unit => True)
    (fun _ => VTup []) (fun _ => [BoxR tb b ((⟨(nextB s []).2.2⟩, (bad || !(nextB s []).2.1) || decide ((nextB s []).1 ≠ [])) : Lns)]) := by
  refine Fn_intro (by kernel_rfl) Tryz.func67 rfl Tryz.ntmps67 rfl (fun e => ?_)
  refine JSR ?_
  refine JM rfl rfl ?_
  refine J_call (must_c _ _ _ ?_ ?_) ⟨(.tmp rfl), At.str, trivial⟩ (Split.take (by repeat first | exact R0 | apply RT) Split.nil) rfl (fun r4 hr4 => ?_)
  · repeat (first | omega | refine Nat.le_trans (nextB_len _ _).2 ?_ | refine Nat.le_trans (nextB_len _ _).1 ?_)
  · exact (by first | omega | simp <;> omega)
  refine JA rfl rfl ?_
  refine JNR ?_
  refine JM rfl rfl ?_
  refine JM rfl rfl ?_
  refine JQ (Q_nilChkP (.tmp rfl)) rfl ?_
  refine JQ (Q_fieldAddrP F128_1 (by decide) (.tmp rfl)) rfl ?_
  refine JQ (Q_loadB (.tmp rfl) (by repeat first | exact R0 | apply RT) (Lens.snd Lens.id (by first | rfl | (simp only [Enc.size, Nat.zero_add, Nat.mul_one, Nat.add_zero]; omega))) T4 (by (try dsimp only) <;> rfl)) rfl ?_
  refine JM rfl rfl ?_
  refine J_qstep (QG rfl rfl rfl rfl rfl opt_bool (fun hg => Q_move (.tmp rfl))) rfl rfl ?_
  refine J_qstep (QG rfl rfl rfl rfl rfl opt_bool (fun hg => (by have hg0 := hg; simp only [BS, ne_eq] at hg0; exact Q_neqs (At.opt rfl (by first | exact hg | (simp only [BS, ne_eq] at hg ⊢; first | exact hg | simp_all))) At.str))) rfl rfl ?_
  refine JQ (Q_orB (.tmp rfl) (fun hb => At.opt rfl (by simp only [BS, ne_eq] at hb ⊢; first | exact hb | simp_all))) rfl ?_
  refine JQ (Q_nilChkP (.tmp rfl)) rfl ?_
  refine JQ (Q_fieldAddrP F128_1 (by decide) (.tmp rfl)) rfl ?_
  refine J_store (.tmp rfl) (.tmp rfl) (by (try dsimp only) <;> rfl) (by repeat first | exact R1 | apply RT) (Lens.snd Lens.id (by first | rfl | (simp only [Enc.size, Nat.zero_add, Nat.mul_one, Nat.add_zero]; omega))) T4.size ?_
  refine J_nil ?_
  exact J_end0 rfl () trivial Split.self (fun _ _ => vtup0 _ _)
end Go.Sep
namespace Go.Sep
open Go Go.Proofs
open Enc (V)
attribute [local irreducible] Quiet QStep J At FnX Fn FnP Repl Split Has Post Back GoZ
def rotl (x : UInt32) (n : Nat) : UInt32 := shl32 x n ||| shr32 x (32 - n)
theorem left_c (x : UInt32) (n : Nat) (hn : n ≤ 32) : FnP Tryz.prog 165 [VInt .u32 (x.toNat : Nat), VInt .i64 (n : Nat)] (VInt .u32 ((rotl x n).toNat : Nat)) := by
  refine FnP_intro (by kernel_rfl) Tryz.func165 rfl Tryz.ntmps165 rfl (fun e => ?_)
  refine JSR ?_
  refine JQ (Q_assign (At.k32 (z := 0) (by decide))) rfl ?_
  refine JN ?_
  refine J_seq ?_
  refine J_draw mix 9 [5, 6, 7, 8, 9, 10, 11, 12, 4] [_, _, _, _, _, _, _, _, _] rfl rfl (by kernel_rfl) (by kernel_rfl) (by kernel_rfl) (by kernel_rfl) (by kernel_rfl) ⟨QS (Q_move (.tmp rfl)) rfl, QS (Q_move (.tmp rfl)) rfl, QS (Q_shl32 (.tmp rfl) (.tmp rfl) (by first | omega | simp <;> omega)) rfl, QS (Q_move (.tmp rfl)) rfl, QS (Q_move (.tmp rfl)) rfl, QS (Q_subi At.int (.tmp rfl) (by first | omega | simp <;> omega) (by first | omega | simp <;> omega)) rfl, QS (Q_shr32 (c := 32 - n) (.tmp rfl) (At.eq (.tmp rfl) (vint_eq (by first | omega | simp <;> omega))) (by first | omega | simp <;> omega)) rfl, QS (Q_or32 (.tmp rfl) (.tmp rfl)) rfl, QS (Q_assign (.tmp rfl)) rfl, trivial⟩ ?_
  refine JN ?_
  refine J_retc ?_
  exact J_ret1 rfl (ResAt.tmp rfl) () trivial Split.nil imp_refl
def mixF (t : Int) (b c d : UInt32) : UInt32 × UInt32 :=
  if t / 20 = 0 then ((b &&& c) ||| ((~~~b) &&& d), 0x5A827999) else if t / 20 = 1 then (b ^^^ c ^^^ d, 0x6ED9EBA1) else if t / 20 = 2 then ((b &&& c) ||| (b &&& d) ||| (c &&& d), 0x8F1BBCDC) else (b ^^^ c ^^^ d, 0xCA62C1D6)
theorem mix_c (t : Int) (b c d : UInt32) (h0 : 0 ≤ t) (h1 : t < 80) : FnP Tryz.prog 166 [VInt .i64 t, VInt .u32 (b.toNat : Nat), VInt .u32 (c.toNat : Nat), VInt .u32 (d.toNat : Nat)]
    (VTup [VInt .u32 ((mixF t b c d).1.toNat : Nat), VInt .u32 ((mixF t b c d).2.toNat : Nat)]) := by
  refine FnP_intro (by kernel_rfl) Tryz.func166 rfl Tryz.ntmps166 rfl (fun e => ?_)
  refine JSR ?_
  refine JQ (Q_assign (At.k32 (z := 0) (by decide))) rfl ?_
  refine JQ (Q_assign (At.k32 (z := 0) (by decide))) rfl ?_
  refine JNSSR ?_
  refine JM rfl rfl ?_
  refine JQ (Q_quoi (.tmp rfl) At.int (by first | omega | simp <;> omega) (by first | omega | simp <;> omega) (by first | omega | simp <;> omega)) rfl ?_
  refine JN ?_
  refine J_block ?_
  refine JSR ?_
  refine JQ (Q_eql (.tmp rfl) At.int) rfl ?_
  refine JA rfl rfl ?_
  refine JN ?_
  refine J_cond (.tmp rfl) (fun h0 => ?_) (fun h0 => ?_)
  · try simp only [BS, ne_eq] at h0
    refine JSR ?_
    refine JM rfl rfl ?_
    refine JM rfl rfl ?_
    refine JQ (Q_and32 (.tmp rfl) (.tmp rfl)) rfl ?_
    refine JM rfl rfl ?_
    refine JQ (Q_not32 (.tmp rfl)) rfl ?_
    refine JM rfl rfl ?_
    refine JQ (Q_and32 (.tmp rfl) (.tmp rfl)) rfl ?_
    refine JQ (Q_or32 (.tmp rfl) (.tmp rfl)) rfl ?_
    refine JA rfl rfl ?_
    refine JQ (Q_assign (At.k32 (z := 1518500249) (by decide))) rfl ?_
    refine JN ?_
    refine J_retc ?_
    refine J_blk_ret ?_
    refine J_then_ret ?_
    exact J_ret2 rfl (ResAt.tmp rfl) (ResAt.tmp rfl) () trivial Split.nil (imp_eq (by simp_all [mixF]))
  try simp only [BS, ne_eq] at h0
  refine JSR ?_
  refine JQ (Q_eql (.tmp rfl) At.int) rfl ?_
  refine JA rfl rfl ?_
  refine JN ?_
  refine J_cond (.tmp rfl) (fun h1 => ?_) (fun h1 => ?_)
  · try simp only [BS, ne_eq] at h1
    refine JSR ?_
    refine JM rfl rfl ?_
    refine JM rfl rfl ?_
    refine JQ (Q_xor32 (.tmp rfl) (.tmp rfl)) rfl ?_
    refine JM rfl rfl ?_
    refine JQ (Q_xor32 (.tmp rfl) (.tmp rfl)) rfl ?_
    refine JA rfl rfl ?_
    refine JQ (Q_assign (At.k32 (z := 1859775393) (by decide))) rfl ?_
    refine JN ?_
    refine J_retc ?_
    refine J_blk_ret ?_
    refine J_then_ret ?_
    exact J_ret2 rfl (ResAt.tmp rfl) (ResAt.tmp rfl) () trivial Split.nil (imp_eq (by simp_all [mixF]))
  try simp only [BS, ne_eq] at h1
  refine JSR ?_
  refine JQ (Q_eql (.tmp rfl) At.int) rfl ?_
  refine JA rfl rfl ?_
  refine JN ?_
  refine J_cond (.tmp rfl) (fun h2 => ?_) (fun h2 => ?_)
  · try simp only [BS, ne_eq] at h2
    refine JSR ?_
    refine JM rfl rfl ?_
    refine JM rfl rfl ?_
    refine JQ (Q_and32 (.tmp rfl) (.tmp rfl)) rfl ?_
    refine JM rfl rfl ?_
    refine JM rfl rfl ?_
    refine JQ (Q_and32 (.tmp rfl) (.tmp rfl)) rfl ?_
    refine JQ (Q_or32 (.tmp rfl) (.tmp rfl)) rfl ?_
    refine JM rfl rfl ?_
    refine JM rfl rfl ?_
    refine JQ (Q_and32 (.tmp rfl) (.tmp rfl)) rfl ?_
    refine JQ (Q_or32 (.tmp rfl) (.tmp rfl)) rfl ?_
    refine JA rfl rfl ?_
    refine JQ (Q_assign (At.k32 (z := 2400959708) (by decide))) rfl ?_
    refine JN ?_
    refine J_retc ?_
    refine J_blk_ret ?_
    refine J_then_ret ?_
    exact J_ret2 rfl (ResAt.tmp rfl) (ResAt.tmp rfl) () trivial Split.nil (imp_eq (by simp_all [mixF]))
  try simp only [BS, ne_eq] at h2
  refine J_skip ?_
  refine J_blk_normal ?_
  refine J_then_normal ?_
  refine JSR ?_
  refine JM rfl rfl ?_
  refine JM rfl rfl ?_
  refine JQ (Q_xor32 (.tmp rfl) (.tmp rfl)) rfl ?_
  refine JM rfl rfl ?_
  refine JQ (Q_xor32 (.tmp rfl) (.tmp rfl)) rfl ?_
  refine JA rfl rfl ?_
  refine JQ (Q_assign (At.k32 (z := 3395469782) (by decide))) rfl ?_
  refine JN ?_
  refine J_retc ?_
  exact J_ret2 rfl (ResAt.tmp rfl) (ResAt.tmp rfl) () trivial Split.nil (imp_eq (by simp_all [mixF]))
def Arr.g {n : Nat} (a : Arr n UInt32) (i : Nat) : UInt32 := a.l.getD i 0
def Arr.g8 {n : Nat} (a : Arr n UInt8) (i : Nat) : UInt8 := a.l.getD i 0
theorem Arr.get_g {n : Nat} (a : Arr n UInt32) (i : Nat) (h : i < n) : a.get i h = a.g i := by
  have : i < a.l.length := by rw [a.h]; exact h
  simp [Arr.g, Arr.get, this]
theorem Arr.get_g8 {n : Nat} (a : Arr n UInt8) (i : Nat) (h : i < n) : a.get i h = a.g8 i := by
  have : i < a.l.length := by rw [a.h]; exact h
  simp [Arr.g8, Arr.get, this]
def eatA (p : Arr 64 UInt8) : Nat → Arr 80 UInt32
  | 0 => GoZero.z
  | k + 1 => (eatA p k).set (k / 4) (shl32 ((eatA p k).g (k / 4)) 8 ||| (p.g8 k).toUInt32)
def eatB (w : Arr 80 UInt32) : Nat → Arr 80 UInt32
  | 0 => w
  | k + 1 => (eatB w k).set (k + 16) (rotl ((eatB w k).g (k + 13) ^^^ (eatB w k).g (k + 8) ^^^ (eatB w k).g (k + 2) ^^^ (eatB w k).g k) 1)
structure U5 where
  (a b c d e : UInt32)
def eatC (w : Arr 80 UInt32) (s : U5) : Nat → U5
  | 0 => s
  | k + 1 => ⟨rotl (eatC w s k).a 5 + (mixF k (eatC w s k).b (eatC w s k).c (eatC w s k).d).1 + (eatC w s k).e + (mixF k (eatC w s k).b (eatC w s k).c (eatC w s k).d).2 + w.g k, (eatC w s k).a, rotl (eatC w s k).b 30, (eatC w s k).c, (eatC w s k).d⟩
def eatD (h x : Arr 5 UInt32) : Nat → Arr 5 UInt32
  | 0 => h
  | k + 1 => (eatD h x k).set k ((eatD h x k).g k + x.g k)
def U5.arr (s : U5) : Arr 5 UInt32 := ⟨[s.a, s.b, s.c, s.d, s.e], rfl⟩
def u5 (h : Arr 5 UInt32) : U5 := ⟨h.g 0, h.g 1, h.g 2, h.g 3, h.g 4⟩
def eatW (p : Arr 64 UInt8) : Arr 80 UInt32 := eatB (eatA p 64) 64
def eatH (h : Arr 5 UInt32) (p : Arr 64 UInt8) : Arr 5 UInt32 := eatD h (eatC (eatW p) (u5 h) 80).arr 5
theorem eatA_0 (p : Arr 64 UInt8) : eatA p 0 = GoZero.z := rfl
theorem eatA_s (p : Arr 64 UInt8) (k : Nat) : eatA p (k + 1) = (eatA p k).set (k / 4) (shl32 ((eatA p k).g (k / 4)) 8 ||| (p.g8 k).toUInt32) := rfl
theorem eatB_0 (w : Arr 80 UInt32) : eatB w 0 = w := rfl
theorem eatB_s (w : Arr 80 UInt32) (k : Nat) : eatB w (k + 1) = (eatB w k).set (k + 16) (rotl ((eatB w k).g (k + 13) ^^^ (eatB w k).g (k + 8) ^^^ (eatB w k).g (k + 2) ^^^ (eatB w k).g k) 1) := rfl
theorem eatC_0 (w : Arr 80 UInt32) (s : U5) : eatC w s 0 = s := rfl
theorem eatC_s (w : Arr 80 UInt32) (s : U5) (k : Nat) : eatC w s (k + 1) = ⟨rotl (eatC w s k).a 5 + (mixF k (eatC w s k).b (eatC w s k).c (eatC w s k).d).1 + (eatC w s k).e + (mixF k (eatC w s k).b (eatC w s k).c (eatC w s k).d).2 + w.g k, (eatC w s k).a, rotl (eatC w s k).b 30, (eatC w s k).c, (eatC w s k).d⟩ := rfl
theorem eatD_0 (h x : Arr 5 UInt32) : eatD h x 0 = h := rfl
theorem eatD_s (h x : Arr 5 UInt32) (k : Nat) : eatD h x (k + 1) = (eatD h x k).set k ((eatD h x k).g k + x.g k) := rfl
theorem eatW_eq (p : Arr 64 UInt8) : eatB (eatA p 64) 64 = eatW p := rfl
theorem u5_eq (h : Arr 5 UInt32) : (u5 h).a = h.g 0 ∧ (u5 h).b = h.g 1 ∧ (u5 h).c = h.g 2 ∧ (u5 h).d = h.g 3 ∧ (u5 h).e = h.g 4 := ⟨rfl, rfl, rfl, rfl, rfl⟩
theorem arr5_eq (z : Arr 5 UInt32) (a b c d e : UInt32) : ((((z.set 0 a).set 1 b).set 2 c).set 3 d).set 4 e = U5.arr ⟨a, b, c, d, e⟩ := by
  obtain ⟨l, h⟩ := z
  match l, h with
  | [_, _, _, _, _], _ => rfl
attribute [local irreducible] eatA eatB eatC eatD eatW u5 U5.arr mixF rotl shl32
abbrev Hsh := Arr 5 UInt32 × Arr 64 UInt8 × Int
theorem eat_c {tb b : Nat} (h : Arr 5 UInt32) (r p : Arr 64 UInt8) (n : Int) : Fn Tryz.prog 138 [Ptr b 0, V p] [BoxR tb b ((h, r, n) : Hsh)] (fun _ : Unit => True)
    (fun _ => VTup []) (fun _ => [BoxR tb b ((eatH h p, r, n) : Hsh)]) := by
  refine Fn_intro (by kernel_rfl) Tryz.func138 rfl Tryz.ntmps138 rfl (fun e => ?_)
  refine JSR ?_
  refine J_boxI (α := (Arr 64 UInt8)) (.tmp rfl) rfl ?_
  refine JNSR ?_
  refine J_alloc Z239 rfl (fun b4 => ?_)
  refine JNSSR ?_
  refine JQ (Q_load (.tmp rfl) T214) rfl ?_
  refine JQ (Q_move At.int) rfl ?_
  refine JN ?_
  refine J_block ?_
  refine J_loopU (ι := Nat) (fun k => k ≤ 64) (fun k => [(20, VInt .i64 (k : Nat))]) [(0, _), (4, _), (19, _)] (fun k => [BoxR 239 b4 (eatA p k), BoxR tb b ((h, r, n) : Hsh)]) (fun k => 64 - k) (0) (by first | omega | simp <;> omega) ⟨fe rfl (by first | rfl | exact vint_eq (by first | omega | simp <;> omega) | exact vsl_eq (by simp) | exact vstr_eq (by simp)), trivial⟩ ⟨rfl, rfl, rfl, trivial⟩ (Has.take (Repl.box (by repeat first | exact R0 | apply RT) (by rw [eatA_0])) (Has.take (Repl.box (by repeat first | exact R0 | apply RT) (by first | rfl | simp)) Has.nil)) (fun k hq => ?_)
  obtain hk := hq
  refine JSR ?_
  refine JQ (Q_lss (.tmp rfl) At.int) rfl ?_
  refine JN ?_
  refine J_seq ?_
  refine J_cond (.tmp rfl) (fun h0 => ?_) (fun h0 => ?_)
  · try simp only [BS, ne_eq] at h0
    refine J_skip ?_
    refine J_then_normal ?_
    refine J_seq ?_
    refine J_block ?_
    refine JSR ?_
    refine JM rfl rfl ?_
    refine JQ (Q_indexA Tryz.underlying214 T5 (.tmp rfl) (.tmp rfl) (by first | omega | simp <;> omega) (by first | omega | simp <;> omega)) rfl ?_
    refine JA rfl rfl ?_
    refine JA rfl rfl ?_
    refine JNR ?_
    refine JM rfl rfl ?_
    refine JQ (Q_quoi (.tmp rfl) At.int (by first | omega | simp <;> omega) (by first | omega | simp <;> omega) (by first | omega | simp <;> omega)) rfl ?_
    refine JM rfl rfl ?_
    refine JQ (Q_quoi (.tmp rfl) At.int (by first | omega | simp <;> omega) (by first | omega | simp <;> omega) (by first | omega | simp <;> omega)) rfl ?_
    refine JQ (Q_idxAddrP Tryz.underlying239 T191.size (.tmp rfl) (.tmp rfl) (by first | omega | simp <;> omega) (by first | omega | simp <;> omega)) rfl ?_
    refine JQ (Q_loadB (.tmp rfl) (by repeat first | exact R0 | apply RT) (Lens.idxO (_) (by first | (simp only [Nat.zero_add]; rfl) | rfl) (by first | omega | simp <;> omega)) T191 (by (try dsimp only) <;> rfl)) rfl ?_
    refine JQ (Q_shl32 (c := 8) (.tmp rfl) At.int (by first | omega | simp <;> omega)) rfl ?_
    refine JM rfl rfl ?_
    refine JQ (Q_conv8to32 (.tmp rfl) (by kernel_rfl) Tryz.underlying191) rfl ?_
    refine JQ (Q_or32 (.tmp rfl) (.tmp rfl)) rfl ?_
    refine JQ (Q_idxAddrP Tryz.underlying239 T191.size (.tmp rfl) (.tmp rfl) (by first | omega | simp <;> omega) (by first | omega | simp <;> omega)) rfl ?_
    refine J_store (.tmp rfl) (.tmp rfl) (by (try dsimp only) <;> rfl) (by repeat first | exact R1 | apply RT) (Lens.idxO (_) (by first | (simp only [Nat.zero_add]; rfl) | rfl) (by first | omega | simp <;> omega)) T191.size ?_
    refine J_nil ?_
    refine J_blk_normal ?_
    refine J_then_normal ?_
    refine J_region ?_
    refine JQ (Q_addi (.tmp rfl) At.int (by first | omega | simp <;> omega) (by first | omega | simp <;> omega)) rfl ?_
    refine JM rfl rfl ?_
    refine JN ?_
    refine J_back (k + 1) ?_ ?_ ?_ ?_
    · exact ⟨by omega, by omega⟩
    · exact ⟨fe rfl (by first | rfl | exact vint_eq (by first | omega | simp <;> omega) | exact vsl_eq (by simp) | exact vstr_eq (by simp)), trivial⟩
    · exact ⟨rfl, rfl, rfl, trivial⟩
    · exact (Has.take (Repl.box (by repeat first | exact R0 | apply RT) (by simp only [Arr.get_g, Arr.get_g8, (show ((k : Int) / 4).toNat = k / 4 by omega), Int.toNat_natCast, eatA_s])) (Has.take (Repl.box (by repeat first | exact R0 | apply RT) (by first | rfl | simp)) Has.nil))
  try simp only [BS, ne_eq] at h0
  refine J_exit ?_
  refine J_then_exit ?_
  refine J_then_exit ?_
  refine J_blk_out ?_
  refine J_then_normal ?_
  refine J_seq ?_
  refine JSR ?_
  refine JQ (Q_assign At.int) rfl ?_
  refine JN ?_
  refine J_block ?_
  refine J_loopU (ι := Nat) (fun k => k ≤ 64) (fun k => [(7, VInt .i64 ((k : Int) + 16))]) [(0, _), (4, _)] (fun k => [BoxR 239 b4 (eatB (eatA p 64) k), BoxR tb b ((h, r, n) : Hsh)]) (fun k => 64 - k) (0) (by first | omega | simp <;> omega) ⟨fe rfl (by first | rfl | exact vint_eq (by first | omega | simp <;> omega) | exact vsl_eq (by simp) | exact vstr_eq (by simp)), trivial⟩ ⟨rfl, rfl, trivial⟩ (Has.take (Repl.box (by repeat first | exact R0 | apply RT) (by rw [show k = 64 by omega, eatB_0])) (Has.take (Repl.box (by repeat first | exact R0 | apply RT) (by first | rfl | simp)) Has.nil)) (fun k hq_1 => ?_)
  obtain hk := hq_1
  refine J_seq ?_
  refine JSR ?_
  refine JM rfl rfl ?_
  refine JQ (Q_lss (.tmp rfl) At.int) rfl ?_
  refine JN ?_
  refine J_cond (.tmp rfl) (fun h1 => ?_) (fun h1 => ?_)
  · try simp only [BS, ne_eq] at h1
    refine J_skip ?_
    refine J_then_normal ?_
    refine J_seq ?_
    refine J_block ?_
    refine J_draw mix 22 [40, 41, 42, 43, 44, 45, 46, 47, 48, 49, 50, 51, 52, 53, 54, 55, 56, 57, 58, 59, 60, 61] [_, _, _, _, _, _, _, _, _, _, _, _, _, _, _, _, _, _, _, _, _, _] rfl rfl (by kernel_rfl) (by kernel_rfl) (by kernel_rfl) (by kernel_rfl) (by kernel_rfl) ⟨QS (Q_move (.tmp rfl)) rfl, QS (Q_move (.tmp rfl)) rfl, QS (Q_subi (.tmp rfl) At.int (by first | omega | simp <;> omega) (by first | omega | simp <;> omega)) rfl, QS (Q_idxAddrP Tryz.underlying239 T191.size (.tmp rfl) (.tmp rfl) (by first | omega | simp <;> omega) (by first | omega | simp <;> omega)) rfl, QS (Q_loadB (.tmp rfl) (by repeat first | exact R0 | apply RT) (Lens.idxO (_) (by first | (simp only [Nat.zero_add]; rfl) | rfl) (by first | omega | simp <;> omega)) T191 (by (try dsimp only) <;> rfl)) rfl, QS (Q_move (.tmp rfl)) rfl, QS (Q_subi (.tmp rfl) At.int (by first | omega | simp <;> omega) (by first | omega | simp <;> omega)) rfl, QS (Q_idxAddrP Tryz.underlying239 T191.size (.tmp rfl) (.tmp rfl) (by first | omega | simp <;> omega) (by first | omega | simp <;> omega)) rfl, QS (Q_loadB (.tmp rfl) (by repeat first | exact R0 | apply RT) (Lens.idxO (_) (by first | (simp only [Nat.zero_add]; rfl) | rfl) (by first | omega | simp <;> omega)) T191 (by (try dsimp only) <;> rfl)) rfl, QS (Q_xor32 (.tmp rfl) (.tmp rfl)) rfl, QS (Q_move (.tmp rfl)) rfl, QS (Q_subi (.tmp rfl) At.int (by first | omega | simp <;> omega) (by first | omega | simp <;> omega)) rfl, QS (Q_idxAddrP Tryz.underlying239 T191.size (.tmp rfl) (.tmp rfl) (by first | omega | simp <;> omega) (by first | omega | simp <;> omega)) rfl, QS (Q_loadB (.tmp rfl) (by repeat first | exact R0 | apply RT) (Lens.idxO (_) (by first | (simp only [Nat.zero_add]; rfl) | rfl) (by first | omega | simp <;> omega)) T191 (by (try dsimp only) <;> rfl)) rfl, QS (Q_xor32 (.tmp rfl) (.tmp rfl)) rfl, QS (Q_move (.tmp rfl)) rfl, QS (Q_subi (.tmp rfl) At.int (by first | omega | simp <;> omega) (by first | omega | simp <;> omega)) rfl, QS (Q_idxAddrP Tryz.underlying239 T191.size (.tmp rfl) (.tmp rfl) (by first | omega | simp <;> omega) (by first | omega | simp <;> omega)) rfl, QS (Q_loadB (.tmp rfl) (by repeat first | exact R0 | apply RT) (Lens.idxO (_) (by first | (simp only [Nat.zero_add]; rfl) | rfl) (by first | omega | simp <;> omega)) T191 (by (try dsimp only) <;> rfl)) rfl, QS (Q_xor32 (.tmp rfl) (.tmp rfl)) rfl, QS (Q_call (left_c _ _ (by first | omega | simp <;> omega)) ⟨(.tmp rfl), At.int, trivial⟩) rfl, QS (Q_idxAddrP Tryz.underlying239 T191.size (.tmp rfl) (.tmp rfl) (by first | omega | simp <;> omega) (by first | omega | simp <;> omega)) rfl, trivial⟩ ?_
    refine J_store (.tmp rfl) (.tmp rfl) (by (try dsimp only) <;> rfl) (by repeat first | exact R1 | apply RT) (Lens.idxO (_) (by first | (simp only [Nat.zero_add]; rfl) | rfl) (by first | omega | simp <;> omega)) T191.size ?_
    refine J_nil ?_
    refine J_blk_normal ?_
    refine J_then_normal ?_
    refine J_region ?_
    refine JM rfl rfl ?_
    refine JQ (Q_addi (.tmp rfl) At.int (by first | omega | simp <;> omega) (by first | omega | simp <;> omega)) rfl ?_
    refine JA rfl rfl ?_
    refine JN ?_
    refine J_back (k + 1) ?_ ?_ ?_ ?_
    · exact ⟨by omega, by omega⟩
    · exact ⟨fe rfl (by first | rfl | exact vint_eq (by first | omega | simp <;> omega) | exact vsl_eq (by simp) | exact vstr_eq (by simp)), trivial⟩
    · exact ⟨rfl, rfl, trivial⟩
    · exact (Has.take (Repl.box (by repeat first | exact R0 | apply RT) (by simp only [Arr.get_g, (show ((k : Int) + 16).toNat = k + 16 by omega), (show ((k : Int) + 16 - 3).toNat = k + 13 by omega), (show ((k : Int) + 16 - 8).toNat = k + 8 by omega), (show ((k : Int) + 16 - 14).toNat = k + 2 by omega), (show ((k : Int) + 16 - 16).toNat = k by omega), eatB_s])) (Has.take (Repl.box (by repeat first | exact R0 | apply RT) (by first | rfl | simp)) Has.nil))
  try simp only [BS, ne_eq] at h1
  refine J_exit ?_
  refine J_then_exit ?_
  refine J_then_exit ?_
  refine J_blk_out ?_
  refine J_then_normal ?_
  refine J_seq ?_
  refine J_draw mix 30 [62, 63, 64, 65, 66, 67, 68, 69, 70, 71, 72, 73, 74, 75, 76, 77, 78, 79, 80, 81, 82, 83, 84, 85, 86, 8, 9, 10, 11, 12] [_, _, _, _, _, _, _, _, _, _, _, _, _, _, _, _, _, _, _, _, _, _, _, _, _, _, _, _, _, _] rfl rfl (by kernel_rfl) (by kernel_rfl) (by kernel_rfl) (by kernel_rfl) (by kernel_rfl) ⟨QS (Q_move (.tmp rfl)) rfl, QS (Q_nilChkP (.tmp rfl)) rfl, QS (Q_fieldAddrP F216_0 (by decide) (.tmp rfl)) rfl, QS (Q_idxAddrP Tryz.underlying192 T191.size (.tmp rfl) At.int (by first | omega | simp <;> omega) (by first | omega | simp <;> omega)) rfl, QS (Q_loadB (.tmp rfl) (by repeat first | exact R0 | apply RT) (Lens.fst (Lens.idxO (_) (by first | (simp only [Nat.zero_add]; rfl) | rfl) (by first | omega | simp <;> omega))) T191 (by (try dsimp only) <;> rfl)) rfl, QS (Q_move (.tmp rfl)) rfl, QS (Q_nilChkP (.tmp rfl)) rfl, QS (Q_fieldAddrP F216_0 (by decide) (.tmp rfl)) rfl, QS (Q_idxAddrP Tryz.underlying192 T191.size (.tmp rfl) At.int (by first | omega | simp <;> omega) (by first | omega | simp <;> omega)) rfl, QS (Q_loadB (.tmp rfl) (by repeat first | exact R0 | apply RT) (Lens.fst (Lens.idxO (_) (by first | (simp only [Nat.zero_add]; rfl) | rfl) (by first | omega | simp <;> omega))) T191 (by (try dsimp only) <;> rfl)) rfl, QS (Q_move (.tmp rfl)) rfl, QS (Q_nilChkP (.tmp rfl)) rfl, QS (Q_fieldAddrP F216_0 (by decide) (.tmp rfl)) rfl, QS (Q_idxAddrP Tryz.underlying192 T191.size (.tmp rfl) At.int (by first | omega | simp <;> omega) (by first | omega | simp <;> omega)) rfl, QS (Q_loadB (.tmp rfl) (by repeat first | exact R0 | apply RT) (Lens.fst (Lens.idxO (_) (by first | (simp only [Nat.zero_add]; rfl) | rfl) (by first | omega | simp <;> omega))) T191 (by (try dsimp only) <;> rfl)) rfl, QS (Q_move (.tmp rfl)) rfl, QS (Q_nilChkP (.tmp rfl)) rfl, QS (Q_fieldAddrP F216_0 (by decide) (.tmp rfl)) rfl, QS (Q_idxAddrP Tryz.underlying192 T191.size (.tmp rfl) At.int (by first | omega | simp <;> omega) (by first | omega | simp <;> omega)) rfl, QS (Q_loadB (.tmp rfl) (by repeat first | exact R0 | apply RT) (Lens.fst (Lens.idxO (_) (by first | (simp only [Nat.zero_add]; rfl) | rfl) (by first | omega | simp <;> omega))) T191 (by (try dsimp only) <;> rfl)) rfl, QS (Q_move (.tmp rfl)) rfl, QS (Q_nilChkP (.tmp rfl)) rfl, QS (Q_fieldAddrP F216_0 (by decide) (.tmp rfl)) rfl, QS (Q_idxAddrP Tryz.underlying192 T191.size (.tmp rfl) At.int (by first | omega | simp <;> omega) (by first | omega | simp <;> omega)) rfl, QS (Q_loadB (.tmp rfl) (by repeat first | exact R0 | apply RT) (Lens.fst (Lens.idxO (_) (by first | (simp only [Nat.zero_add]; rfl) | rfl) (by first | omega | simp <;> omega))) T191 (by (try dsimp only) <;> rfl)) rfl, QS (Q_assign (.tmp rfl)) rfl, QS (Q_assign (.tmp rfl)) rfl, QS (Q_assign (.tmp rfl)) rfl, QS (Q_assign (.tmp rfl)) rfl, QS (Q_assign (.tmp rfl)) rfl, trivial⟩ ?_
  refine JNSSR ?_
  refine JQ (Q_loadB (.tmp rfl) (by repeat first | exact R0 | apply RT) Lens.id T239 (by (try dsimp only) <;> rfl)) rfl ?_
  refine JQ (Q_move At.int) rfl ?_
  refine JN ?_
  refine J_block ?_
  obtain rfl : k = 64 := (by first | omega | simp <;> omega)
  refine J_loopU (ι := Nat) (fun m => m ≤ 80) (fun m => [(88, VInt .i64 (m : Nat)), (8, VInt .u32 ((eatC (eatW p) (u5 h) m).a.toNat : Nat)), (9, VInt .u32 ((eatC (eatW p) (u5 h) m).b.toNat : Nat)), (10, VInt .u32 ((eatC (eatW p) (u5 h) m).c.toNat : Nat)), (11, VInt .u32 ((eatC (eatW p) (u5 h) m).d.toNat : Nat)), (12, VInt .u32 ((eatC (eatW p) (u5 h) m).e.toNat : Nat))]) [(0, _), (87, _)] (fun m => [BoxR tb b ((h, r, n) : Hsh)]) (fun m => 80 - m) (0) (by first | omega | simp <;> omega) ⟨fe rfl (by first | rfl | exact vint_eq (by first | omega | simp <;> omega) | exact vsl_eq (by simp) | exact vstr_eq (by simp)), fe rfl (by simp only [eatC_0, u5_eq, Arr.get_g]; rfl), fe rfl (by simp only [eatC_0, u5_eq, Arr.get_g]; rfl), fe rfl (by simp only [eatC_0, u5_eq, Arr.get_g]; rfl), fe rfl (by simp only [eatC_0, u5_eq, Arr.get_g]; rfl), fe rfl (by simp only [eatC_0, u5_eq, Arr.get_g]; rfl), trivial⟩ ⟨rfl, rfl, trivial⟩ (Has.take (Repl.box (by repeat first | exact R0 | apply RT) (by first | rfl | simp)) Has.nil) (fun m hq_2 => ?_)
  obtain hm := hq_2
  refine JSR ?_
  refine JQ (Q_lss (.tmp rfl) At.int) rfl ?_
  refine JN ?_
  refine J_seq ?_
  refine J_cond (.tmp rfl) (fun h2 => ?_) (fun h2 => ?_)
  · try simp only [BS, ne_eq] at h2
    refine J_skip ?_
    refine J_then_normal ?_
    refine J_seq ?_
    refine J_block ?_
    refine JSR ?_
    refine JM rfl rfl ?_
    refine JQ (Q_indexA Tryz.underlying239 T191 (.tmp rfl) (.tmp rfl) (by first | omega | simp <;> omega) (by first | omega | simp <;> omega)) rfl ?_
    refine JA rfl rfl ?_
    refine JA rfl rfl ?_
    refine JNSR ?_
    refine JM rfl rfl ?_
    refine JM rfl rfl ?_
    refine JM rfl rfl ?_
    refine JM rfl rfl ?_
    refine JQ (Q_call (mix_c _ _ _ _ (by first | omega | simp <;> omega) (by first | omega | simp <;> omega)) ⟨(.tmp rfl), (.tmp rfl), (.tmp rfl), (.tmp rfl), trivial⟩) rfl ?_
    refine JM rfl rfl ?_
    refine JQ (Q_extract (.tmp rfl) rfl) rfl ?_
    refine JQ (Q_extract (.tmp rfl) rfl) rfl ?_
    refine JA rfl rfl ?_
    refine JA rfl rfl ?_
    refine JNR ?_
    refine JM rfl rfl ?_
    refine JQ (Q_call (left_c _ _ (by first | omega | simp <;> omega)) ⟨(.tmp rfl), At.int, trivial⟩) rfl ?_
    refine JM rfl rfl ?_
    refine JQ (Q_add32 (.tmp rfl) (.tmp rfl)) rfl ?_
    refine JM rfl rfl ?_
    refine JQ (Q_add32 (.tmp rfl) (.tmp rfl)) rfl ?_
    refine JM rfl rfl ?_
    refine JQ (Q_add32 (.tmp rfl) (.tmp rfl)) rfl ?_
    refine JM rfl rfl ?_
    refine JQ (Q_add32 (.tmp rfl) (.tmp rfl)) rfl ?_
    refine JM rfl rfl ?_
    refine JM rfl rfl ?_
    refine JQ (Q_call (left_c _ _ (by first | omega | simp <;> omega)) ⟨(.tmp rfl), At.int, trivial⟩) rfl ?_
    refine JM rfl rfl ?_
    refine JM rfl rfl ?_
    refine JA rfl rfl ?_
    refine JA rfl rfl ?_
    refine JA rfl rfl ?_
    refine JA rfl rfl ?_
    refine JA rfl rfl ?_
    refine J_nil ?_
    refine J_blk_normal ?_
    refine J_then_normal ?_
    refine J_region ?_
    refine JQ (Q_addi (.tmp rfl) At.int (by first | omega | simp <;> omega) (by first | omega | simp <;> omega)) rfl ?_
    refine JM rfl rfl ?_
    refine JN ?_
    refine J_back (m + 1) ?_ ?_ ?_ ?_
    · exact ⟨by omega, by omega⟩
    · exact ⟨fe rfl (by first | rfl | exact vint_eq (by first | omega | simp <;> omega) | exact vsl_eq (by simp) | exact vstr_eq (by simp)), fe rfl (by rw [eatC_s]; try simp only [Arr.get_g, eatW_eq, Int.toNat_natCast]), fe rfl (by rw [eatC_s]; try simp only [Arr.get_g, eatW_eq, Int.toNat_natCast]), fe rfl (by rw [eatC_s]; try simp only [Arr.get_g, eatW_eq, Int.toNat_natCast]), fe rfl (by rw [eatC_s]; try simp only [Arr.get_g, eatW_eq, Int.toNat_natCast]), fe rfl (by rw [eatC_s]; try simp only [Arr.get_g, eatW_eq, Int.toNat_natCast]), trivial⟩
    · exact ⟨rfl, rfl, trivial⟩
    · exact (Has.take (Repl.box (by repeat first | exact R0 | apply RT) (by first | rfl | simp)) Has.nil)
  try simp only [BS, ne_eq] at h2
  refine J_exit ?_
  refine J_then_exit ?_
  refine J_then_exit ?_
  refine J_blk_out ?_
  refine J_then_normal ?_
  refine JSR ?_
  refine JM rfl rfl ?_
  refine JM rfl rfl ?_
  refine JM rfl rfl ?_
  refine JM rfl rfl ?_
  refine JM rfl rfl ?_
  refine JQ (Q_build Z192 T192.agg (by kernel_rfl) (BP.cons (by kernel_rfl) (Lens.idx 0 (by decide) rfl) (.tmp rfl) (BP.cons (by kernel_rfl) (Lens.idx 1 (by decide) rfl) (.tmp rfl) (BP.cons (by kernel_rfl) (Lens.idx 2 (by decide) rfl) (.tmp rfl) (BP.cons (by kernel_rfl) (Lens.idx 3 (by decide) rfl) (.tmp rfl) (BP.cons (by kernel_rfl) (Lens.idx 4 (by decide) rfl) (.tmp rfl) BP.nil)))))) rfl ?_
  refine JQ (Q_move At.int) rfl ?_
  refine JN ?_
  refine J_block ?_
  obtain rfl : m = 80 := (by first | omega | simp <;> omega)
  refine J_loopU (ι := Nat) (fun j => j ≤ 5) (fun j => [(122, VInt .i64 (j : Nat))]) [(0, _), (121, _)] (fun j => [BoxR tb b ((eatD h (eatC (eatW p) (u5 h) 80).arr j, r, n) : Hsh)]) (fun j => 5 - j) (0) (by first | omega | simp <;> omega) ⟨fe rfl (by first | rfl | exact vint_eq (by first | omega | simp <;> omega) | exact vsl_eq (by simp) | exact vstr_eq (by simp)), trivial⟩ ⟨rfl, rfl, trivial⟩ (Has.take (Repl.box (by repeat first | exact R0 | apply RT) (by rw [eatD_0])) Has.nil) (fun j hq_3 => ?_)
  obtain hj := hq_3
  refine JSR ?_
  refine JQ (Q_lss (.tmp rfl) At.int) rfl ?_
  refine JN ?_
  refine J_seq ?_
  refine J_cond (.tmp rfl) (fun h3 => ?_) (fun h3 => ?_)
  · try simp only [BS, ne_eq] at h3
    refine J_skip ?_
    refine J_then_normal ?_
    refine J_seq ?_
    refine J_block ?_
    refine JSR ?_
    refine JM rfl rfl ?_
    refine JQ (Q_indexA Tryz.underlying192 T191 (.tmp rfl) (.tmp rfl) (by first | omega | simp <;> omega) (by first | omega | simp <;> omega)) rfl ?_
    refine JA rfl rfl ?_
    refine JA rfl rfl ?_
    refine JN ?_
    refine J_draw mix 11 [126, 127, 128, 129, 130, 131, 132, 133, 134, 135, 136] [_, _, _, _, _, _, _, _, _, _, _] rfl rfl (by kernel_rfl) (by kernel_rfl) (by kernel_rfl) (by kernel_rfl) (by kernel_rfl) ⟨QS (Q_move (.tmp rfl)) rfl, QS (Q_move (.tmp rfl)) rfl, QS (Q_nilChkP (.tmp rfl)) rfl, QS (Q_fieldAddrP F216_0 (by decide) (.tmp rfl)) rfl, QS (Q_idxAddrP Tryz.underlying192 T191.size (.tmp rfl) (.tmp rfl) (by first | omega | simp <;> omega) (by first | omega | simp <;> omega)) rfl, QS (Q_loadB (.tmp rfl) (by repeat first | exact R0 | apply RT) (Lens.fst (Lens.idxO (_) (by first | (simp only [Nat.zero_add]; rfl) | rfl) (by first | omega | simp <;> omega))) T191 (by (try dsimp only) <;> rfl)) rfl, QS (Q_move (.tmp rfl)) rfl, QS (Q_add32 (.tmp rfl) (.tmp rfl)) rfl, QS (Q_nilChkP (.tmp rfl)) rfl, QS (Q_fieldAddrP F216_0 (by decide) (.tmp rfl)) rfl, QS (Q_idxAddrP Tryz.underlying192 T191.size (.tmp rfl) (.tmp rfl) (by first | omega | simp <;> omega) (by first | omega | simp <;> omega)) rfl, trivial⟩ ?_
    refine J_store (.tmp rfl) (.tmp rfl) (by (try dsimp only) <;> rfl) (by repeat first | exact R1 | apply RT) (Lens.fst (Lens.idxO (_) (by first | (simp only [Nat.zero_add]; rfl) | rfl) (by first | omega | simp <;> omega))) T191.size ?_
    refine J_nil ?_
    refine J_blk_normal ?_
    refine J_then_normal ?_
    refine J_region ?_
    refine JQ (Q_addi (.tmp rfl) At.int (by first | omega | simp <;> omega) (by first | omega | simp <;> omega)) rfl ?_
    refine JM rfl rfl ?_
    refine JN ?_
    refine J_back (j + 1) ?_ ?_ ?_ ?_
    · exact ⟨by omega, by omega⟩
    · exact ⟨fe rfl (by first | rfl | exact vint_eq (by first | omega | simp <;> omega) | exact vsl_eq (by simp) | exact vstr_eq (by simp)), trivial⟩
    · exact ⟨rfl, rfl, trivial⟩
    · exact (Has.take (Repl.box (by repeat first | exact R0 | apply RT) (by simp only [Arr.get_g, Int.toNat_natCast, eatD_s, arr5_eq])) Has.nil)
  try simp only [BS, ne_eq] at h3
  refine J_exit ?_
  refine J_then_exit ?_
  refine J_then_exit ?_
  refine J_blk_out ?_
  obtain rfl : j = 5 := (by first | omega | simp <;> omega)
  exact J_end0 rfl () trivial (Split.take (Repl.box (by repeat first | exact R0 | apply RT) rfl) Split.nil) (fun _ _ => vtup0 _ _)
structure SH where
  w : Arr 5 UInt32
  r : Arr 64 UInt8
  n : Nat
def SH.put (t : SH) (c : UInt8) : SH := if (t.n + 1) % 64 = 0 then ⟨eatH t.w (t.r.set (t.n % 64) c), t.r.set (t.n % 64) c, t.n + 1⟩ else ⟨t.w, t.r.set (t.n % 64) c, t.n + 1⟩
theorem SH.put_yes {t : SH} {c : UInt8} (h : (t.n + 1) % 64 = 0) : t.put c = ⟨eatH t.w (t.r.set (t.n % 64) c), t.r.set (t.n % 64) c, t.n + 1⟩ := if_pos h
theorem SH.put_no {t : SH} {c : UInt8} (h : ¬ (t.n + 1) % 64 = 0) : t.put c = ⟨t.w, t.r.set (t.n % 64) c, t.n + 1⟩ := if_neg h
theorem SH.put_n (t : SH) (c : UInt8) : (t.put c).n = t.n + 1 := by unfold SH.put; split <;> rfl
def SH.puts (t : SH) (l : Bytes) : SH := l.foldl SH.put t
theorem SH.puts_n (l : Bytes) : ∀ t : SH, (t.puts l).n = t.n + l.length := by
  induction l with
  | nil => intro t; rfl
  | cons c l ih => intro t; show ((t.put c).puts l).n = _; rw [ih, SH.put_n, List.length_cons]; omega
theorem SH.puts_s (t : SH) (l : Bytes) (k : Nat) (h : k < l.length) : (t.puts (l.take k)).put l[k] = t.puts (l.take (k + 1)) := by
  unfold SH.puts; rw [List.take_succ_eq_append_getElem h, List.foldl_append]; rfl
abbrev SH.v (t : SH) : Hsh := (t.w, t.r, ((t.n : Nat) : Int))
attribute [local irreducible] eatH
theorem write_c {tb b : Nat} (s : SH) (l : Bytes) (hn : s.n + l.length ≤ 2305843009213693952) : Fn Tryz.prog 105 [Ptr b 0, Sl l] [BoxR tb b s.v] (fun _ : Unit => True)
    (fun _ => VTup []) (fun _ => [BoxR tb b (s.puts l).v]) := by
  refine Fn_intro (by kernel_rfl) Tryz.func105 rfl Tryz.ntmps105 rfl (fun e => ?_)
  refine JSR ?_
  refine JM rfl rfl ?_
  refine JQ (Q_len Tryz.underlying23 rfl (.tmp rfl)) rfl ?_
  refine JQ (Q_move At.int) rfl ?_
  refine JN ?_
  refine J_block ?_
  refine J_loopU (ι := Nat × SH) (fun q => match q with | (k, t) => k ≤ l.length ∧ t = s.puts (l.take k) ∧ t.n = s.n + k) (fun q => match q with | (k, t) => [(8, VInt .i64 (k : Nat))]) [(0, _), (6, _), (7, _)] (fun q => match q with | (k, t) => [BoxR tb b ((t.w, t.r, ((t.n : Nat) : Int)) : Hsh)]) (fun q => match q with | (k, t) => l.length - k) ((0, s)) ⟨by omega, rfl, by omega⟩ ⟨fe rfl (by first | rfl | exact vint_eq (by first | omega | simp <;> omega) | exact vsl_eq (by simp) | exact vstr_eq (by simp)), trivial⟩ ⟨rfl, rfl, rfl, trivial⟩ (Has.take (Repl.box (by repeat first | exact R0 | apply RT) (by first | rfl | simp)) Has.nil) (fun q hq => ?_)
  obtain ⟨k, t⟩ := q
  try dsimp only at hq
  obtain ⟨hk, ht, htn⟩ := hq
  refine JSR ?_
  refine JQ (Q_lss (.tmp rfl) (.tmp rfl)) rfl ?_
  refine JN ?_
  refine J_seq ?_
  refine J_cond (.tmp rfl) (fun h0 => ?_) (fun h0 => ?_)
  · try simp only [BS, ne_eq] at h0
    refine J_skip ?_
    refine J_then_normal ?_
    refine J_seq ?_
    refine J_block ?_
    refine JSR ?_
    refine JQ (by first | exact Q_idxAddrN Tryz.underlying23 T5.size (.tmp rfl) (.tmp rfl) (by first | omega | simp <;> omega) | exact Q_idxAddr Tryz.underlying23 T5.size (.tmp rfl) (.tmp rfl) (by first | omega | simp <;> omega) (by first | omega | simp <;> omega)) rfl ?_
    refine JQ (Q_load (.tmp rfl) T5) rfl ?_
    refine JA rfl rfl ?_
    refine JN ?_
    refine J_seq ?_
    refine J_draw mix 10 [12, 13, 14, 15, 16, 17, 18, 19, 20, 21] [_, _, _, _, _, _, _, _, _, _] rfl rfl (by kernel_rfl) (by kernel_rfl) (by kernel_rfl) (by kernel_rfl) (by kernel_rfl) ⟨QS (Q_move (.tmp rfl)) rfl, QS (Q_move (.tmp rfl)) rfl, QS (Q_nilChkP (.tmp rfl)) rfl, QS (Q_fieldAddrP F216_2 (by decide) (.tmp rfl)) rfl, QS (Q_loadB (.tmp rfl) (by repeat first | exact R0 | apply RT) (Lens.snd (Lens.snd Lens.id (by first | rfl | (simp only [Enc.size, Nat.zero_add, Nat.mul_one, Nat.add_zero]; omega))) (by first | rfl | (simp only [Enc.size, Nat.zero_add, Nat.mul_one, Nat.add_zero]; omega))) T3 (by (try dsimp only) <;> rfl)) rfl, QS (Q_remi (.tmp rfl) At.int (by first | omega | simp <;> omega) (by first | omega | simp <;> omega)) rfl, QS (Q_move (.tmp rfl)) rfl, QS (Q_nilChkP (.tmp rfl)) rfl, QS (Q_fieldAddrP F216_1 (by decide) (.tmp rfl)) rfl, QS (Q_idxAddrP Tryz.underlying214 T5.size (.tmp rfl) (.tmp rfl) (by first | omega | simp <;> omega) (by first | omega | simp <;> omega)) rfl, trivial⟩ ?_
    refine J_store (.tmp rfl) (.tmp rfl) (by (try dsimp only) <;> rfl) (by repeat first | exact R1 | apply RT) (Lens.sndO (by first | rfl | (simp only [Enc.size, Nat.zero_add, Nat.mul_one, Nat.add_zero]; omega)) (Lens.fst (Lens.idxO (_) (by first | (simp only [Nat.zero_add]; rfl) | rfl) (by first | omega | simp <;> omega)))) T5.size ?_
    refine JNSR ?_
    refine JM rfl rfl ?_
    refine JQ (Q_nilChkP (.tmp rfl)) rfl ?_
    refine JQ (Q_fieldAddrP F216_2 (by decide) (.tmp rfl)) rfl ?_
    refine JQ (Q_loadB (.tmp rfl) (by repeat first | exact R0 | apply RT) (Lens.snd (Lens.snd Lens.id (by first | rfl | (simp only [Enc.size, Nat.zero_add, Nat.mul_one, Nat.add_zero]; omega))) (by first | rfl | (simp only [Enc.size, Nat.zero_add, Nat.mul_one, Nat.add_zero]; omega))) T3 (by (try dsimp only) <;> rfl)) rfl ?_
    refine JQ (Q_addi (.tmp rfl) At.int (by first | omega | simp <;> omega) (by first | omega | simp <;> omega)) rfl ?_
    refine JQ (Q_nilChkP (.tmp rfl)) rfl ?_
    refine JQ (Q_fieldAddrP F216_2 (by decide) (.tmp rfl)) rfl ?_
    refine J_store (.tmp rfl) (.tmp rfl) (by (try dsimp only) <;> rfl) (by repeat first | exact R1 | apply RT) (Lens.snd (Lens.snd Lens.id (by first | rfl | (simp only [Enc.size, Nat.zero_add, Nat.mul_one, Nat.add_zero]; omega))) (by first | rfl | (simp only [Enc.size, Nat.zero_add, Nat.mul_one, Nat.add_zero]; omega))) T3.size ?_
    refine JNSR ?_
    refine JM rfl rfl ?_
    refine JQ (Q_nilChkP (.tmp rfl)) rfl ?_
    refine JQ (Q_fieldAddrP F216_2 (by decide) (.tmp rfl)) rfl ?_
    refine JQ (Q_loadB (.tmp rfl) (by repeat first | exact R0 | apply RT) (Lens.snd (Lens.snd Lens.id (by first | rfl | (simp only [Enc.size, Nat.zero_add, Nat.mul_one, Nat.add_zero]; omega))) (by first | rfl | (simp only [Enc.size, Nat.zero_add, Nat.mul_one, Nat.add_zero]; omega))) T3 (by (try dsimp only) <;> rfl)) rfl ?_
    refine JQ (Q_remi (.tmp rfl) At.int (by first | omega | simp <;> omega) (by first | omega | simp <;> omega)) rfl ?_
    refine JQ (Q_eql (.tmp rfl) At.int) rfl ?_
    refine JN ?_
    refine J_cond (.tmp rfl) (fun h1 => ?_) (fun h1 => ?_)
    · try simp only [BS, ne_eq] at h1
      refine J_region ?_
      refine JM rfl rfl ?_
      refine JM rfl rfl ?_
      refine JQ (Q_nilChkP (.tmp rfl)) rfl ?_
      refine JQ (Q_fieldAddrP F216_1 (by decide) (.tmp rfl)) rfl ?_
      refine JQ (Q_loadB (.tmp rfl) (by repeat first | exact R0 | apply RT) (Lens.snd (Lens.fst Lens.id) (by first | rfl | (simp only [Enc.size, Nat.zero_add, Nat.mul_one, Nat.add_zero]; omega))) T214 (by (try dsimp only) <;> rfl)) rfl ?_
      refine J_call (eat_c _ _ _ _) ⟨(.tmp rfl), (.tmp rfl), trivial⟩ (Split.take (by repeat first | exact R0 | apply RT) Split.nil) rfl (fun r40 hr40 => ?_)
      refine J_nil ?_
      refine J_blk_normal ?_
      refine J_then_normal ?_
      refine J_region ?_
      refine JQ (Q_addi (.tmp rfl) At.int (by first | omega | simp <;> omega) (by first | omega | simp <;> omega)) rfl ?_
      refine JM rfl rfl ?_
      refine JN ?_
      have h64 : ((t.n : Int) % 64).toNat = t.n % 64 := (by first | omega | simp <;> omega)
      have hp := SH.put_yes (t := t) (c := l[k]) (by first | omega | simp <;> omega)
      refine J_back ((k + 1, t.put l[k])) ?_ ?_ ?_ ?_
      · exact ⟨⟨by omega, by rw [ht, SH.puts_s], by rw [SH.put_n]; omega⟩, by simp only; omega⟩
      · exact ⟨fe rfl (by first | rfl | exact vint_eq (by first | omega | simp <;> omega) | exact vsl_eq (by simp) | exact vstr_eq (by simp)), trivial⟩
      · exact ⟨rfl, rfl, rfl, trivial⟩
      · exact (Has.take (Repl.box (by repeat first | exact R0 | apply RT) (by simp only [hp, h64]; rfl)) Has.nil)
    try simp only [BS, ne_eq] at h1
    refine J_skip ?_
    refine J_blk_normal ?_
    refine J_then_normal ?_
    refine J_region ?_
    refine JQ (Q_addi (.tmp rfl) At.int (by first | omega | simp <;> omega) (by first | omega | simp <;> omega)) rfl ?_
    refine JM rfl rfl ?_
    refine JN ?_
    have h64 : ((t.n : Int) % 64).toNat = t.n % 64 := (by first | omega | simp <;> omega)
    have hp := SH.put_no (t := t) (c := l[k]) (by first | omega | simp <;> omega)
    refine J_back ((k + 1, t.put l[k])) ?_ ?_ ?_ ?_
    · exact ⟨⟨by omega, by rw [ht, SH.puts_s], by rw [SH.put_n]; omega⟩, by simp only; omega⟩
    · exact ⟨fe rfl (by first | rfl | exact vint_eq (by first | omega | simp <;> omega) | exact vsl_eq (by simp) | exact vstr_eq (by simp)), trivial⟩
    · exact ⟨rfl, rfl, rfl, trivial⟩
    · exact (Has.take (Repl.box (by repeat first | exact R0 | apply RT) (by simp only [hp, h64]; rfl)) Has.nil)
  try simp only [BS, ne_eq] at h0
  refine J_exit ?_
  refine J_then_exit ?_
  refine J_then_exit ?_
  refine J_blk_out ?_
  obtain rfl : k = l.length := (by first | omega | simp <;> omega)
  rw [List.take_length] at ht
  subst ht
  exact J_end0 rfl () trivial (Split.take (by repeat first | exact R0 | apply RT) Split.nil) (fun _ _ => vtup0 _ _)
end Go.Sep
namespace Go.Sep
open Go Go.Proofs
open Enc (V)
attribute [local irreducible] Quiet QStep J At FnX Fn FnP Repl Split Has Post Back GoZ eatH
theorem cloneB_o (l : Bytes) (hl : l.length ≤ 140737488355328) : Fn Tryz.prog 40 [Sl l] [] (fun _ : Value => True) Is (fun v => [RowR 5 v l]) := by
  refine Fn_intro (by kernel_rfl) Tryz.func40 rfl Tryz.ntmps40 rfl (fun e => ?_)
  refine JSR ?_
  refine JQ (Q_assign At.const) rfl ?_
  refine JNSSR ?_
  refine JM rfl rfl ?_
  refine JQ (Q_slNil Tryz.underlying23 (.tmp rfl) At.const) rfl ?_
  refine J_open (t := 4) rfl (fun bn hbn => ?_)
  refine JN ?_
  refine J_cond (.tmp rfl) (fun h0 => ?_) (fun h0 => ?_)
  · try simp only [BS, ne_eq] at h0
    refine JSR ?_
    refine JQ (Q_assign At.const) rfl ?_
    refine JN ?_
    refine J_retc ?_
    refine J_then_ret ?_
    obtain rfl := hbn h0
    refine J_rowNil (el := 5) UInt8 ?_
    exact J_ret1 rfl (ResAt.tmp rfl) _ trivial (Split.take (by repeat first | exact R0 | apply RT) Split.nil) imp_refl
  try simp only [BS, ne_eq] at h0
  refine J_skip ?_
  refine J_then_normal ?_
  refine JSR ?_
  refine J_buildRow (α := UInt8) E5 Tryz.underlying23 [] [] rfl rfl trivial (Nat.le_of_ble_eq_true rfl) rfl (fun v5 => ?_)
  refine JM rfl rfl ?_
  refine J_append (α := UInt8) E5 Tryz.underlying23 (.tmp rfl) (.tmp rfl) (by repeat first | exact R0 | apply RT) (by first | omega | (simp; omega)) (by first | (simp only [maxLen]; omega) | (simp [maxLen]; omega)) rfl (fun v7 => ?_)
  refine JA rfl rfl ?_
  refine JN ?_
  refine J_retc ?_
  exact J_ret1 rfl (ResAt.tmp rfl) _ trivial (Split.take (by repeat first | exact R0 | apply RT) Split.nil) imp_refl
theorem cloneB_c (l : Bytes) (hl : l.length ≤ 140737488355328) : FnP Tryz.prog 40 [Sl l] (Sl l) := (cloneB_o l hl).row
theorem clipB_c (l : Bytes) : FnP Tryz.prog 39 [Sl l] (Sl l) := by
  refine FnP_intro (by kernel_rfl) Tryz.func39 rfl Tryz.ntmps39 rfl (fun e => ?_)
  refine JSR ?_
  refine JQ (Q_assign At.const) rfl ?_
  refine JNSR ?_
  refine JM rfl rfl ?_
  refine JM rfl rfl ?_
  refine JQ (Q_len Tryz.underlying23 rfl (.tmp rfl)) rfl ?_
  refine JM rfl rfl ?_
  refine JQ (Q_len Tryz.underlying23 rfl (.tmp rfl)) rfl ?_
  refine JQ (Q_clip Tryz.underlying23 T5.size (.tmp rfl) trivial ⟨⟨_, (.tmp rfl)⟩, ⟨_, (.tmp rfl)⟩⟩ (by first | omega | simp <;> omega) (by first | omega | simp <;> omega) (by first | omega | simp <;> omega) (by first | omega | simp <;> omega)) rfl ?_
  refine JA rfl rfl ?_
  refine JN ?_
  refine J_retc ?_
  exact J_ret1 rfl (ResAt.tmp rfl) () trivial Split.nil (imp_eq (vsl_eq (by simp)))
def putB (v : Int) (m : Nat) : Bytes := (List.range m).map fun (i : Nat) => toU8 (shrK .i64 v (8 * ((m : Int) - 1 - (i : Nat))))
theorem putB_len (v : Int) (m : Nat) : (putB v m).length = m := by simp [putB]
theorem put_c (b : Bytes) (v : Int) (m : Nat) (hm : m ≤ 8) (hb : b.length ≤ 1048576) : FnP Tryz.prog 167 [Sl b, VInt .i64 v, VInt .i64 (8 * (m : Nat))] (Sl (b ++ putB v m)) := by
  refine FnP_intro (by kernel_rfl) Tryz.func167 rfl Tryz.ntmps167 rfl (fun e => ?_)
  refine JSR ?_
  refine JQ (Q_assign At.const) rfl ?_
  refine JNSR ?_
  refine JM rfl rfl ?_
  refine J_call (cloneB_o _ (by first | omega | simp <;> omega)) ⟨(.tmp rfl), trivial⟩ Split.nil rfl (fun r9 hr9 => ?_)
  refine JA rfl rfl ?_
  refine JN ?_
  refine J_seq ?_
  refine J_block ?_
  refine J_loopU (ι := Nat × Value) (fun q => match q with | (j, u) => j ≤ m) (fun q => match q with | (j, u) => [(7, Is u), (2, VInt .i64 (8 * ((m : Int) - j)))]) [(1, _), (6, _)] (fun q => match q with | (j, u) => [RowR 5 u (b ++ (putB v m).take j)]) (fun q => match q with | (j, u) => m - j) ((0, _)) (by first | omega | simp <;> omega) ⟨fe rfl (by first | rfl | exact vint_eq (by first | omega | simp <;> omega) | exact vsl_eq (by simp) | exact vstr_eq (by simp)), fe rfl (by first | rfl | exact vint_eq (by first | omega | simp <;> omega) | exact vsl_eq (by simp) | exact vstr_eq (by simp)), trivial⟩ ⟨rfl, rfl, trivial⟩ (Has.take (Repl.row (by repeat first | exact R0 | apply RT) (by simp)) Has.nil) (fun q hq => ?_)
  obtain ⟨j, u⟩ := q
  try dsimp only at hq
  obtain hj := hq
  refine J_seq ?_
  refine JSR ?_
  refine JM rfl rfl ?_
  refine JQ (Q_gtr (.tmp rfl) At.int) rfl ?_
  refine JN ?_
  refine J_cond (.tmp rfl) (fun h0 => ?_) (fun h0 => ?_)
  · try simp only [BS, ne_eq] at h0
    refine J_skip ?_
    refine J_then_normal ?_
    refine J_block ?_
    refine JSR ?_
    refine JM rfl rfl ?_
    refine JQ (Q_subi (.tmp rfl) At.int (by first | omega | simp <;> omega) (by first | omega | simp <;> omega)) rfl ?_
    refine JA rfl rfl ?_
    refine JNR ?_
    refine JM rfl rfl ?_
    refine JM rfl rfl ?_
    refine JM rfl rfl ?_
    refine JQ (Q_shr (.tmp rfl) (.tmp rfl) (by first | omega | simp <;> omega)) rfl ?_
    refine JQ (Q_to8 (.tmp rfl) (by kernel_rfl) Tryz.underlying5) rfl ?_
    refine JQ (Q_buildSlice (α := UInt8) E5 Tryz.underlying23 [.tmp 18] [_] rfl rfl ⟨(.tmp rfl), trivial⟩ (Nat.le_of_ble_eq_true rfl)) rfl ?_
    refine J_append (α := UInt8) E5 Tryz.underlying23 (.tmp rfl) (.tmp rfl) (by repeat first | exact R0 | apply RT) (by first | omega | (simp; omega)) (by first | (simp only [maxLen]; omega) | (simp [maxLen]; omega)) rfl (fun v20 => ?_)
    refine JA rfl rfl ?_
    refine J_nil ?_
    refine J_blk_normal ?_
    refine J_then_normal ?_
    refine J_back ((j + 1, v20)) ?_ ?_ ?_ ?_
    · exact ⟨by omega, by simp only; omega⟩
    · exact ⟨fe rfl (by first | rfl | exact vint_eq (by first | omega | simp <;> omega) | exact vsl_eq (by simp) | exact vstr_eq (by simp)), fe rfl (by first | rfl | exact vint_eq (by first | omega | simp <;> omega) | exact vsl_eq (by simp) | exact vstr_eq (by simp)), trivial⟩
    · exact ⟨rfl, rfl, trivial⟩
    · exact (Has.take (Repl.row (by repeat first | exact R0 | apply RT) (by rw [List.take_succ_eq_append_getElem (by rw [putB_len]; omega), List.append_assoc]; simp [putB]; congr 3; omega)) Has.nil)
  try simp only [BS, ne_eq] at h0
  refine J_exit ?_
  refine J_then_exit ?_
  refine J_then_exit ?_
  refine J_blk_out ?_
  refine J_then_normal ?_
  refine JSR ?_
  refine J_freezeR (sl := 7) (by repeat first | exact R0 | apply RT) rfl ?_
  refine JM rfl rfl ?_
  refine JQ (Q_call (clipB_c _) ⟨(.tmp rfl), trivial⟩) rfl ?_
  refine JA rfl rfl ?_
  refine JN ?_
  refine J_retc ?_
  exact J_ret1 rfl (ResAt.tmp rfl) () trivial Split.nil (imp_eq (vsl_eq (by obtain rfl : j = m := (by first | omega | simp <;> omega); rw [List.take_of_length_le (by rw [putB_len]; omega)])))
theorem put64_c (b : Bytes) (v : Int) (hb : b.length ≤ 1048576) : FnP Tryz.prog 140 [Sl b, VInt .i64 v] (Sl (b ++ putB v 8)) := by
  refine FnP_intro (by kernel_rfl) Tryz.func140 rfl Tryz.ntmps140 rfl (fun e => ?_)
  refine JSR ?_
  refine JQ (Q_assign At.const) rfl ?_
  refine JNSR ?_
  refine JM rfl rfl ?_
  refine JM rfl rfl ?_
  refine JQ (Q_call (put_c _ _ 8 (by first | omega | simp <;> omega) (by first | omega | simp <;> omega)) ⟨(.tmp rfl), (.tmp rfl), At.int, trivial⟩) rfl ?_
  refine JA rfl rfl ?_
  refine JN ?_
  refine J_retc ?_
  exact J_ret1 rfl (ResAt.tmp rfl) () trivial Split.nil imp_refl
theorem put32_c (b : Bytes) (v : Int) (hb : b.length ≤ 1048576) : FnP Tryz.prog 141 [Sl b, VInt .i64 v] (Sl (b ++ putB v 4)) := by
  refine FnP_intro (by kernel_rfl) Tryz.func141 rfl Tryz.ntmps141 rfl (fun e => ?_)
  refine JSR ?_
  refine JQ (Q_assign At.const) rfl ?_
  refine JNSR ?_
  refine JM rfl rfl ?_
  refine JM rfl rfl ?_
  refine JQ (Q_call (put_c _ _ 4 (by first | omega | simp <;> omega) (by first | omega | simp <;> omega)) ⟨(.tmp rfl), (.tmp rfl), At.int, trivial⟩) rfl ?_
  refine JA rfl rfl ?_
  refine JN ?_
  refine J_retc ?_
  exact J_ret1 rfl (ResAt.tmp rfl) () trivial Split.nil imp_refl
def SH.new : SH := ⟨(U5.mk 0x67452301 0xEFCDAB89 0x98BADCFE 0x10325476 0xC3D2E1F0).arr, GoZero.z, 0⟩
theorem shaNew_c : Fn Tryz.prog 104 [] [] (fun _ : Nat => True) (fun b => Ptr b 0) (fun b => [BoxR 216 b SH.new.v]) := by
  refine Fn_intro (by kernel_rfl) Tryz.func104 rfl Tryz.ntmps104 rfl (fun e => ?_)
  refine JSR ?_
  refine JQ (Q_assign At.const) rfl ?_
  refine JNSR ?_
  refine JQ (Q_build Z192 T192.agg (by kernel_rfl) (BP.cons (by kernel_rfl) (Lens.idx 0 (by decide) rfl) (At.k32 (z := 1732584193) (by decide)) (BP.cons (by kernel_rfl) (Lens.idx 1 (by decide) rfl) (At.k32 (z := 4023233417) (by decide)) (BP.cons (by kernel_rfl) (Lens.idx 2 (by decide) rfl) (At.k32 (z := 2562383102) (by decide)) (BP.cons (by kernel_rfl) (Lens.idx 3 (by decide) rfl) (At.k32 (z := 271733878) (by decide)) (BP.cons (by kernel_rfl) (Lens.idx 4 (by decide) rfl) (At.k32 (z := 3285377520) (by decide)) BP.nil)))))) rfl ?_
  refine JQ (Q_build Z216 T216.agg (by kernel_rfl) (BP.cons PL216_0 (Lens.fst Lens.id) (.tmp rfl) BP.nil)) rfl ?_
  refine J_box (α := ((Arr 5 UInt32) × (Arr 64 UInt8) × Int)) (.tmp rfl) rfl (fun b3 => ?_)
  refine JA rfl rfl ?_
  refine JN ?_
  refine J_retc ?_
  exact J_ret1 rfl (ResAt.tmp rfl) _ trivial (Split.take (Repl.box (by repeat first | exact R0 | apply RT) rfl) Split.nil) imp_refl
theorem twin_c {tb b : Nat} (s : SH) : Fn Tryz.prog 139 [Ptr b 0] [BoxR tb b s.v] (fun _ : Nat => True) (fun c => Ptr c 0) (fun c => [BoxR 216 c s.v, BoxR tb b s.v]) := by
  refine Fn_intro (by kernel_rfl) Tryz.func139 rfl Tryz.ntmps139 rfl (fun e => ?_)
  refine JSR ?_
  refine JQ (Q_assign At.const) rfl ?_
  refine JNSR ?_
  refine JM rfl rfl ?_
  refine JQ (Q_nilChkP (.tmp rfl)) rfl ?_
  refine JQ (Q_loadB (.tmp rfl) (by repeat first | exact R0 | apply RT) Lens.id T216 (by (try dsimp only) <;> rfl)) rfl ?_
  refine J_alloc Z216 rfl (fun b3 => ?_)
  refine J_store (.tmp rfl) (.tmp rfl) (by (try dsimp only) <;> rfl) (by repeat first | exact R1 | apply RT) Lens.id T216.size ?_
  refine JNSR ?_
  refine JA rfl rfl ?_
  refine JN ?_
  refine J_retc ?_
  exact J_ret1 rfl (ResAt.tmp rfl) _ trivial (Split.take (by repeat first | exact R0 | apply RT) (Split.take (by repeat first | exact R0 | apply RT) Split.nil)) imp_refl
end Go.Sep
namespace Go.Sep
open Go Go.Proofs
open Enc (V)
attribute [local irreducible] Quiet QStep J At FnX Fn FnP Repl Split Has Post Back GoZ eatH
def out5 (w : Arr 5 UInt32) : Nat → Bytes
  | 0 => []
  | k + 1 => out5 w k ++ putB ((w.g k).toNat : Nat) 4
theorem out5_s (w : Arr 5 UInt32) (k : Nat) : out5 w (k + 1) = out5 w k ++ putB ((w.g k).toNat : Nat) 4 := rfl
theorem out5_len (w : Arr 5 UInt32) (k : Nat) : (out5 w k).length = 4 * k := by
  induction k with
  | zero => rfl
  | succ k ih => rw [out5, List.length_append, ih, putB_len]; omega
def SH.zeros (s : SH) : Nat := (119 - s.n % 64) % 64
def SH.fin (s : SH) : SH := ((s.puts [0x80]).puts (List.replicate s.zeros 0)).puts (putB (8 * (s.n : Nat)) 8)
def SH.sum (s : SH) : Oid := ⟨(out5 s.fin.w 5).take 20, by rw [List.length_take, out5_len]; rfl⟩
def sha1 (l : Bytes) : Oid := (SH.new.puts l).sum
theorem SH.puts_0 (t : SH) : t.puts (List.replicate 0 0) = t := rfl
theorem SH.puts_rep (t : SH) (k : Nat) : (t.puts (List.replicate k 0)).puts [0] = t.puts (List.replicate (k + 1) 0) := by
  unfold SH.puts; rw [List.replicate_succ', List.foldl_append]
theorem SH.fin_n (s : SH) : ((s.puts [0x80]).puts (List.replicate s.zeros 0)).n % 64 = 56 := by
  rw [SH.puts_n, SH.puts_n, List.length_replicate]; unfold SH.zeros; simp only [List.length_cons, List.length_nil]; omega
theorem SH.fin_no (s : SH) (j : Nat) (h : j < s.zeros) : ((s.puts [0x80]).puts (List.replicate j 0)).n % 64 ≠ 56 := by
  rw [SH.puts_n, SH.puts_n, List.length_replicate]; unfold SH.zeros at h; simp only [List.length_cons, List.length_nil]; omega
attribute [local irreducible] SH.puts out5 putB SH.zeros
theorem hsum_c {tb b : Nat} (s : SH) (hn : s.n ≤ 1099511627776) : Fn Tryz.prog 106 [Ptr b 0] [BoxR tb b s.v] (fun _ : Unit => True) (fun _ => V s.sum) (fun _ => [BoxR tb b s.v]) := by
  have hz1 : s.zeros < 64 := by unfold SH.zeros; omega
  have hn1 := SH.puts_n [0x80] s
  have hn2 := fun j => SH.puts_n (List.replicate j 0) (s.puts [0x80])
  have hpl := putB_len (8 * (s.n : Nat)) 8
  simp only [List.length_replicate, List.length_cons, List.length_nil] at hn1 hn2
  refine Fn_intro (by kernel_rfl) Tryz.func106 rfl Tryz.ntmps106 rfl (fun e => ?_)
  refine JSR ?_
  refine J_alloc Z38 rfl (fun b2 => ?_)
  refine JNSR ?_
  refine JM rfl rfl ?_
  refine J_call (twin_c _) ⟨(.tmp rfl), trivial⟩ (Split.take (by repeat first | exact R0 | apply RT) Split.nil) rfl (fun r8 hr8 => ?_)
  refine JA rfl rfl ?_
  refine JNSR ?_
  refine JM rfl rfl ?_
  refine JQ (Q_buildSlice (α := UInt8) E5 Tryz.underlying23 [.const (.int .u8 128)] [_] rfl rfl ⟨(At.k8 (z := 128) (by decide)), trivial⟩ (Nat.le_of_ble_eq_true rfl)) rfl ?_
  refine J_call (write_c _ _ ?_) ⟨(.tmp rfl), (.tmp rfl), trivial⟩ (Split.take (by repeat first | exact R0 | apply RT) Split.nil) rfl (fun r11 hr11 => ?_)
  · exact (by first | omega | simp <;> omega)
  refine JN ?_
  refine J_seq ?_
  refine J_block ?_
  refine J_loopU (ι := Nat) (fun j => j ≤ s.zeros) (fun j => []) [(0, _), (2, _), (3, _)] (fun j => [BoxR 216 r8 ((s.puts [0x80]).puts (List.replicate j 0)).v, BoxR tb b s.v, BoxR 38 b2 (GoZero.z : Oid)]) (fun j => s.zeros - j) (0) (by first | omega | simp <;> omega) trivial ⟨rfl, rfl, rfl, trivial⟩ (Has.take (Repl.box (by repeat first | exact R0 | apply RT) (by rw [SH.puts_0]; rfl)) (Has.take (Repl.box (by repeat first | exact R0 | apply RT) (by first | rfl | simp)) (Has.take (Repl.box (by repeat first | exact R0 | apply RT) (by first | rfl | simp)) Has.nil))) (fun j hq => ?_)
  obtain hj := hq
  have hn3 := hn2 j
  refine J_seq ?_
  refine JSR ?_
  refine JM rfl rfl ?_
  refine JQ (Q_nilChkP (.tmp rfl)) rfl ?_
  refine JQ (Q_fieldAddrP F216_2 (by decide) (.tmp rfl)) rfl ?_
  refine JQ (Q_loadB (.tmp rfl) (by repeat first | exact R0 | apply RT) (Lens.snd (Lens.snd Lens.id (by first | rfl | (simp only [Enc.size, Nat.zero_add, Nat.mul_one, Nat.add_zero]; omega))) (by first | rfl | (simp only [Enc.size, Nat.zero_add, Nat.mul_one, Nat.add_zero]; omega))) T3 (by (try dsimp only) <;> rfl)) rfl ?_
  refine JQ (Q_remi (.tmp rfl) At.int (by first | omega | simp <;> omega) (by first | omega | simp <;> omega)) rfl ?_
  refine JQ (Q_neq (.tmp rfl) At.int) rfl ?_
  refine JN ?_
  refine J_cond (.tmp rfl) (fun h0 => ?_) (fun h0 => ?_)
  · try simp only [BS, ne_eq] at h0
    refine J_skip ?_
    refine J_then_normal ?_
    refine J_block ?_
    refine J_region ?_
    refine JM rfl rfl ?_
    refine JQ (Q_buildSlice (α := UInt8) E5 Tryz.underlying23 [.const (.int .u8 0)] [_] rfl rfl ⟨(At.k8 (z := 0) (by decide)), trivial⟩ (Nat.le_of_ble_eq_true rfl)) rfl ?_
    refine J_call (write_c _ _ ?_) ⟨(.tmp rfl), (.tmp rfl), trivial⟩ (Split.take (by repeat first | exact R0 | apply RT) Split.nil) rfl (fun r20 hr20 => ?_)
    · exact (by first | omega | simp <;> omega)
    refine J_nil ?_
    refine J_blk_normal ?_
    refine J_then_normal ?_
    refine J_back (j + 1) ?_ ?_ ?_ ?_
    · exact ⟨by have := SH.fin_n s; have : j ≠ s.zeros := (by rintro rfl; omega); omega, by have := SH.fin_n s; have : j ≠ s.zeros := (by rintro rfl; omega); omega⟩
    · exact trivial
    · exact ⟨rfl, rfl, rfl, trivial⟩
    · exact (Has.take (Repl.box (by repeat first | exact R0 | apply RT) (by exact congrArg SH.v (SH.puts_rep _ _))) (Has.take (Repl.box (by repeat first | exact R0 | apply RT) (by first | rfl | simp)) (Has.take (Repl.box (by repeat first | exact R0 | apply RT) (by first | rfl | simp)) Has.nil)))
  try simp only [BS, ne_eq] at h0
  refine J_exit ?_
  refine J_then_exit ?_
  refine J_then_exit ?_
  refine J_blk_out ?_
  refine J_then_normal ?_
  refine J_seq ?_
  have hjz : j = s.zeros := Classical.byContradiction fun hc => SH.fin_no s j (by first | omega | simp <;> omega) (by first | omega | simp <;> omega)
  subst hjz
  refine J_region ?_
  refine JM rfl rfl ?_
  refine JM rfl rfl ?_
  refine JQ (Q_nilChkP (.tmp rfl)) rfl ?_
  refine JQ (Q_fieldAddrP F216_2 (by decide) (.tmp rfl)) rfl ?_
  refine JQ (Q_loadB (.tmp rfl) (by repeat first | exact R0 | apply RT) (Lens.snd (Lens.snd Lens.id (by first | rfl | (simp only [Enc.size, Nat.zero_add, Nat.mul_one, Nat.add_zero]; omega))) (by first | rfl | (simp only [Enc.size, Nat.zero_add, Nat.mul_one, Nat.add_zero]; omega))) T3 (by (try dsimp only) <;> rfl)) rfl ?_
  refine JQ (Q_muli At.int (.tmp rfl) (by first | omega | simp <;> omega) (by first | omega | simp <;> omega)) rfl ?_
  refine JQ (Q_call (put64_c _ _ (by first | omega | simp <;> omega)) ⟨At.nils, (.tmp rfl), trivial⟩) rfl ?_
  refine J_call (write_c _ _ ?_) ⟨(.tmp rfl), (.tmp rfl), trivial⟩ (Split.take (by repeat first | exact R0 | apply RT) Split.nil) rfl (fun r28 hr28 => ?_)
  · exact (by first | omega | simp <;> omega)
  refine JNSR ?_
  refine JQ (Q_assign (At.nils (α := UInt8))) rfl ?_
  refine JNSSR ?_
  refine JM rfl rfl ?_
  refine JQ (Q_nilChkP (.tmp rfl)) rfl ?_
  refine JQ (Q_fieldAddrP F216_0 (by decide) (.tmp rfl)) rfl ?_
  refine JQ (Q_loadB (.tmp rfl) (by repeat first | exact R0 | apply RT) (Lens.fst Lens.id) T192 (by (try dsimp only) <;> rfl)) rfl ?_
  refine JQ (Q_move At.int) rfl ?_
  refine JN ?_
  refine J_block ?_
  refine J_loopU (ι := Nat) (fun k => k ≤ 5) (fun k => [(33, VInt .i64 (k : Nat)), (4, Sl (out5 s.fin.w k))]) [(2, _), (32, _)] (fun k => [BoxR tb b s.v, BoxR 38 b2 (GoZero.z : Oid)]) (fun k => 5 - k) (0) (by first | omega | simp <;> omega) ⟨fe rfl (by first | rfl | exact vint_eq (by first | omega | simp <;> omega) | exact vsl_eq (by simp) | exact vstr_eq (by simp)), fe rfl (by exact vsl_eq (by unfold out5; rfl)), trivial⟩ ⟨rfl, rfl, trivial⟩ (Has.take (Repl.box (by repeat first | exact R0 | apply RT) (by first | rfl | simp)) (Has.take (Repl.box (by repeat first | exact R0 | apply RT) (by first | rfl | simp)) Has.nil)) (fun k hq_1 => ?_)
  obtain hk := hq_1
  have hol := out5_len s.fin.w k
  refine JSR ?_
  refine JQ (Q_lss (.tmp rfl) At.int) rfl ?_
  refine JN ?_
  refine J_seq ?_
  refine J_cond (.tmp rfl) (fun h1 => ?_) (fun h1 => ?_)
  · try simp only [BS, ne_eq] at h1
    refine J_skip ?_
    refine J_then_normal ?_
    refine J_seq ?_
    refine J_block ?_
    refine JSR ?_
    refine JQ (Q_indexA Tryz.underlying192 T191 (.tmp rfl) (.tmp rfl) (by first | omega | simp <;> omega) (by first | omega | simp <;> omega)) rfl ?_
    refine JA rfl rfl ?_
    refine JNR ?_
    refine JM rfl rfl ?_
    refine JM rfl rfl ?_
    refine JQ (Q_conv32to64 (.tmp rfl) (by kernel_rfl) Tryz.underlying3) rfl ?_
    refine JQ (Q_call (put32_c _ _ (by first | omega | simp <;> omega)) ⟨(.tmp rfl), (.tmp rfl), trivial⟩) rfl ?_
    refine JA rfl rfl ?_
    refine J_nil ?_
    refine J_blk_normal ?_
    refine J_then_normal ?_
    refine J_region ?_
    refine JQ (Q_addi (.tmp rfl) At.int (by first | omega | simp <;> omega) (by first | omega | simp <;> omega)) rfl ?_
    refine JM rfl rfl ?_
    refine JN ?_
    refine J_back (k + 1) ?_ ?_ ?_ ?_
    · exact ⟨by omega, by omega⟩
    · exact ⟨fe rfl (by first | rfl | exact vint_eq (by first | omega | simp <;> omega) | exact vsl_eq (by simp) | exact vstr_eq (by simp)), fe rfl (by exact vsl_eq (by rw [out5_s, ← Arr.get_g _ k (by first | omega | simp <;> omega)]; rfl)), trivial⟩
    · exact ⟨rfl, rfl, trivial⟩
    · exact (Has.take (Repl.box (by repeat first | exact R0 | apply RT) (by first | rfl | simp)) (Has.take (Repl.box (by repeat first | exact R0 | apply RT) (by first | rfl | simp)) Has.nil))
  try simp only [BS, ne_eq] at h1
  refine J_exit ?_
  refine J_then_exit ?_
  refine J_then_exit ?_
  refine J_blk_out ?_
  refine J_then_normal ?_
  refine JSR ?_
  refine JM rfl rfl ?_
  refine JQ (Q_toArr Tryz.underlying38 (.tmp rfl) (by first | omega | simp <;> omega) (by first | omega | simp <;> omega)) rfl ?_
  refine JQ (Q_load (.tmp rfl) T38) rfl ?_
  refine J_store (.tmp rfl) (.tmp rfl) (by (try dsimp only) <;> rfl) (by repeat first | exact R1 | apply RT) Lens.id T38.size ?_
  refine JN ?_
  refine J_retc ?_
  obtain rfl : k = 5 := (by first | omega | simp <;> omega)
  exact J_ret1 rfl (ResAt.box rfl (by repeat first | exact R0 | apply RT) T38) () trivial (Split.take (by repeat first | exact R0 | apply RT) Split.nil) (imp_eq (by rfl))
theorem shaSum_c (l : Bytes) (hl : l.length ≤ 549755813888) : FnP Tryz.prog 76 [Sl l] (V (sha1 l)) := by
  have hn : SH.new.n = 0 := rfl
  have hn1 := SH.puts_n l SH.new
  refine FnP_intro (by kernel_rfl) Tryz.func76 rfl Tryz.ntmps76 rfl (fun e => ?_)
  refine JSR ?_
  refine J_alloc Z38 rfl (fun b2 => ?_)
  refine JNSR ?_
  refine J_call (shaNew_c) trivial Split.nil rfl (fun r4 hr4 => ?_)
  refine JA rfl rfl ?_
  refine JNSR ?_
  refine JM rfl rfl ?_
  refine JM rfl rfl ?_
  refine J_call (write_c _ _ ?_) ⟨(.tmp rfl), (.tmp rfl), trivial⟩ (Split.take (by repeat first | exact R0 | apply RT) Split.nil) rfl (fun r7 hr7 => ?_)
  · exact (by first | omega | simp <;> omega)
  refine JNSR ?_
  refine JM rfl rfl ?_
  refine J_call (hsum_c _ ?_) ⟨(.tmp rfl), trivial⟩ (Split.take (by repeat first | exact R0 | apply RT) Split.nil) rfl (fun r9 hr9 => ?_)
  · exact (by first | omega | simp <;> omega)
  refine J_store (.tmp rfl) (.tmp rfl) (by (try dsimp only) <;> rfl) (by repeat first | exact R1 | apply RT) Lens.id T38.size ?_
  refine JN ?_
  refine J_retc ?_
  exact J_ret1 rfl (ResAt.box rfl (by repeat first | exact R0 | apply RT) T38) () trivial Split.nil (imp_eq (by rfl))
end Go.Sep
namespace Go.Sep
open Go Go.Proofs
open Enc (V)
attribute [local irreducible] Quiet QStep J At FnX Fn FnP Repl Split Has Post Back GoZ
theorem growB_c (k : Nat) (hk0 : 0 < k) (hk : k ≤ 1073741824) : Fn Tryz.prog 142 [Is (.slice none 0 0), VInt .i64 (k : Nat)] [] (fun q : Nat × Nat => q.2 ≤ maxLen) (fun q => Is (.slice (some ⟨q.1, 0, none⟩) 0 q.2))
    (fun q => [RowR 5 (.slice (some ⟨q.1, 0, none⟩) 0 q.2) ([] : Bytes)]) := by
  refine Fn_intro (by kernel_rfl) Tryz.func142 rfl Tryz.ntmps142 rfl (fun e => ?_)
  refine JSR ?_
  refine JQ (Q_assign At.const) rfl ?_
  refine JNSSR ?_
  refine JM rfl rfl ?_
  refine JQ (Q_lss (.tmp rfl) At.int) rfl ?_
  refine JN ?_
  refine J_cond (.tmp rfl) (fun h0 => ?_) (fun h0 => ?_)
  · try simp only [BS, ne_eq] at h0
    omega
  try simp only [BS, ne_eq] at h0
  refine J_skip ?_
  refine J_then_normal ?_
  refine J_seq ?_
  refine JSR ?_
  refine JM rfl rfl ?_
  refine JM rfl rfl ?_
  refine JQ (Q_capV Tryz.underlying23 rfl (.tmp rfl)) rfl ?_
  refine JM rfl rfl ?_
  refine JQ (Q_lenV Tryz.underlying23 rfl (.tmp rfl)) rfl ?_
  refine JQ (Q_subi (.tmp rfl) (.tmp rfl) (by first | omega | simp <;> omega) (by first | omega | simp <;> omega)) rfl ?_
  refine JQ (Q_subi (.tmp rfl) (.tmp rfl) (by first | omega | simp <;> omega) (by first | omega | simp <;> omega)) rfl ?_
  refine JA rfl rfl ?_
  refine JNSR ?_
  refine JM rfl rfl ?_
  refine JQ (Q_gtr (.tmp rfl) At.int) rfl ?_
  refine JN ?_
  refine J_cond (.tmp rfl) (fun h1 => ?_) (fun h1 => ?_)
  · try simp only [BS, ne_eq] at h1
    refine J_region ?_
    refine JM rfl rfl ?_
    refine JM rfl rfl ?_
    refine JQ (Q_capV Tryz.underlying23 rfl (.tmp rfl)) rfl ?_
    refine JQ (Q_cutV (a := none) Tryz.underlying23 T5.size (.tmp rfl) (.tmp rfl) (by first | omega | simp <;> omega) (by first | omega | simp <;> omega) (by simp [maxLen])) rfl ?_
    refine JM rfl rfl ?_
    refine J_growNil UInt8 E5 Tryz.underlying23 Tryz.underlying3 (.tmp rfl) (At.eq (.tmp rfl) (vint_eq (show _ = ((k : Nat) : Int) by omega))) hk0 (by first | omega | simp <;> omega) (by first | omega | simp <;> omega) rfl (fun g c hc => ?_)
    refine JM rfl rfl ?_
    refine JQ (Q_lenV Tryz.underlying23 rfl (.tmp rfl)) rfl ?_
    refine JQ (Q_cutV (a := some g) Tryz.underlying23 T5.size (.tmp rfl) (.tmp rfl) (by first | omega | simp <;> omega) (by first | omega | simp <;> omega) hc.2) rfl ?_
    refine JA rfl rfl ?_
    refine JNSR ?_
    refine JM rfl rfl ?_
    refine JA rfl rfl ?_
    refine JN ?_
    refine J_retc ?_
    exact J_ret1 rfl (ResAt.tmp rfl) (g, c) hc.2 (Split.take (by repeat first | exact R0 | apply RT) Split.nil) imp_refl
  try simp only [BS, ne_eq] at h1
  omega
theorem concatB_c (ll : List Bytes) (h0 : 0 < ll.flatten.length) (h1 : ll.flatten.length ≤ 1073741824) : FnP Tryz.prog 107 [Sl ll] (Sl ll.flatten) := by
  have hpre : ∀ k, (ll.take k).flatten.length ≤ ll.flatten.length := fun k => by
    have := congrArg (fun x => x.flatten.length) (List.take_append_drop k ll)
    simp only [List.flatten_append, List.length_append] at this
    omega
  have hstep : ∀ k (h : k < ll.length), (ll.take (k + 1)).flatten = (ll.take k).flatten ++ ll[k] := fun k h => by
    rw [List.take_succ_eq_append_getElem h, List.flatten_append, List.flatten_cons, List.flatten_nil, List.append_nil]
  refine FnP_intro (by kernel_rfl) Tryz.func107 rfl Tryz.ntmps107 rfl (fun e => ?_)
  refine J_lenLe (t := 0) rfl (fun hl0 => ?_)
  refine JSR ?_
  refine JQ (Q_assign At.const) rfl ?_
  refine JNSR ?_
  refine JQ (Q_assign At.int) rfl ?_
  refine JNSSR ?_
  refine JM rfl rfl ?_
  refine JQ (Q_len Tryz.underlying219 rfl (.tmp rfl)) rfl ?_
  refine JQ (Q_move At.int) rfl ?_
  refine JN ?_
  refine J_block ?_
  refine J_loopU (ι := Nat) (fun k => k ≤ ll.length) (fun k => [(11, VInt .i64 (k : Nat)), (3, VInt .i64 ((ll.take k).flatten.length : Nat))]) [(0, _), (2, _), (9, _), (10, _)] (fun k => []) (fun k => ll.length - k) (0) (by first | omega | simp <;> omega) ⟨fe rfl (by first | rfl | exact vint_eq (by first | omega | simp <;> omega) | exact vsl_eq (by simp) | exact vstr_eq (by simp)), fe rfl (by first | rfl | exact vint_eq (by first | omega | simp <;> omega) | exact vsl_eq (by simp) | exact vstr_eq (by simp)), trivial⟩ ⟨rfl, rfl, rfl, rfl, trivial⟩ Has.nil (fun k hq => ?_)
  obtain hk := hq
  have hp1 := hpre k
  refine JSR ?_
  refine JQ (Q_lss (.tmp rfl) (.tmp rfl)) rfl ?_
  refine JN ?_
  refine J_seq ?_
  refine J_cond (.tmp rfl) (fun h0 => ?_) (fun h0 => ?_)
  · try simp only [BS, ne_eq] at h0
    have hp3 := hpre (k + 1)
    have hp4 := congrArg List.length (hstep k (by first | omega | simp <;> omega))
    rw [List.length_append] at hp4
    refine J_skip ?_
    refine J_then_normal ?_
    refine J_seq ?_
    refine J_block ?_
    refine JSR ?_
    refine JQ (by first | exact Q_idxAddrN Tryz.underlying219 T23.size (.tmp rfl) (.tmp rfl) (by first | omega | simp <;> omega) | exact Q_idxAddr Tryz.underlying219 T23.size (.tmp rfl) (.tmp rfl) (by first | omega | simp <;> omega) (by first | omega | simp <;> omega)) rfl ?_
    refine JQ (Q_load (.tmp rfl) T23) rfl ?_
    refine JA rfl rfl ?_
    refine JNSR ?_
    refine JM rfl rfl ?_
    refine JM rfl rfl ?_
    refine JQ (Q_len Tryz.underlying23 rfl (.tmp rfl)) rfl ?_
    refine JQ (Q_addi (.tmp rfl) (.tmp rfl) (by first | omega | simp <;> omega) (by first | omega | simp <;> omega)) rfl ?_
    refine JA rfl rfl ?_
    refine JNSR ?_
    refine JM rfl rfl ?_
    refine JQ (Q_lss (.tmp rfl) At.int) rfl ?_
    refine JN ?_
    refine J_cond (.tmp rfl) (fun h1 => ?_) (fun h1 => ?_)
    · try simp only [BS, ne_eq] at h1
      omega
    try simp only [BS, ne_eq] at h1
    refine J_skip ?_
    refine J_blk_normal ?_
    refine J_then_normal ?_
    refine J_region ?_
    refine JQ (Q_addi (.tmp rfl) At.int (by first | omega | simp <;> omega) (by first | omega | simp <;> omega)) rfl ?_
    refine JM rfl rfl ?_
    refine JN ?_
    refine J_back (k + 1) ?_ ?_ ?_ ?_
    · exact ⟨by omega, by omega⟩
    · exact ⟨fe rfl (by first | rfl | exact vint_eq (by first | omega | simp <;> omega) | exact vsl_eq (by simp) | exact vstr_eq (by simp)), fe rfl (by exact vint_eq (by rw [hstep k (by first | omega | simp <;> omega), List.length_append]; omega)), trivial⟩
    · exact ⟨rfl, rfl, rfl, rfl, trivial⟩
    · exact Has.nil
  try simp only [BS, ne_eq] at h0
  refine J_exit ?_
  refine J_then_exit ?_
  refine J_then_exit ?_
  refine J_blk_out ?_
  refine J_then_normal ?_
  refine J_seq ?_
  obtain rfl : k = ll.length := (by first | omega | simp <;> omega)
  rw [List.take_length] at hp1
  refine J_turn (t := 3) (VInt .i64 (ll.flatten.length : Nat)) rfl (imp_eq (by rw [List.take_length])) ?_
  refine J_region ?_
  refine JM rfl rfl ?_
  refine J_call (growB_c _ (by first | omega | simp <;> omega) (by first | omega | simp <;> omega)) ⟨At.const, (.tmp rfl), trivial⟩ Split.nil rfl (fun r24 hr24 => ?_)
  refine JA rfl rfl ?_
  refine JNSSR ?_
  refine JM rfl rfl ?_
  refine JQ (Q_len Tryz.underlying219 rfl (.tmp rfl)) rfl ?_
  refine JQ (Q_move At.int) rfl ?_
  refine JN ?_
  refine J_block ?_
  refine J_loopU (ι := Nat × Value) (fun q => match q with | (j, u) => j ≤ ll.length) (fun q => match q with | (j, u) => [(27, VInt .i64 (j : Nat)), (6, Is u)]) [(2, _), (25, _), (26, _)] (fun q => match q with | (j, u) => [RowR 5 u (ll.take j).flatten]) (fun q => match q with | (j, u) => ll.length - j) ((0, _)) (by first | omega | simp <;> omega) ⟨fe rfl (by first | rfl | exact vint_eq (by first | omega | simp <;> omega) | exact vsl_eq (by simp) | exact vstr_eq (by simp)), fe rfl (by first | rfl | exact vint_eq (by first | omega | simp <;> omega) | exact vsl_eq (by simp) | exact vstr_eq (by simp)), trivial⟩ ⟨rfl, rfl, rfl, trivial⟩ (Has.take (Repl.row (by repeat first | exact R0 | apply RT) (by first | rfl | simp)) Has.nil) (fun q hq_1 => ?_)
  obtain ⟨j, u⟩ := q
  try dsimp only at hq_1
  obtain hj := hq_1
  have hp2 := hpre j
  refine JSR ?_
  refine JQ (Q_lss (.tmp rfl) (.tmp rfl)) rfl ?_
  refine JN ?_
  refine J_seq ?_
  refine J_cond (.tmp rfl) (fun h2 => ?_) (fun h2 => ?_)
  · try simp only [BS, ne_eq] at h2
    have hp3 := hpre (j + 1)
    have hp4 := congrArg List.length (hstep j (by first | omega | simp <;> omega))
    rw [List.length_append] at hp4
    refine J_skip ?_
    refine J_then_normal ?_
    refine J_seq ?_
    refine J_block ?_
    refine JSR ?_
    refine JQ (by first | exact Q_idxAddrN Tryz.underlying219 T23.size (.tmp rfl) (.tmp rfl) (by first | omega | simp <;> omega) | exact Q_idxAddr Tryz.underlying219 T23.size (.tmp rfl) (.tmp rfl) (by first | omega | simp <;> omega) (by first | omega | simp <;> omega)) rfl ?_
    refine JQ (Q_load (.tmp rfl) T23) rfl ?_
    refine JA rfl rfl ?_
    refine JNR ?_
    refine JM rfl rfl ?_
    refine JM rfl rfl ?_
    refine J_append (α := UInt8) E5 Tryz.underlying23 (.tmp rfl) (.tmp rfl) (by repeat first | exact R0 | apply RT) (by first | omega | (simp; omega)) (by first | (simp only [maxLen]; omega) | (simp [maxLen]; omega)) rfl (fun v33 => ?_)
    refine JA rfl rfl ?_
    refine J_nil ?_
    refine J_blk_normal ?_
    refine J_then_normal ?_
    refine J_region ?_
    refine JQ (Q_addi (.tmp rfl) At.int (by first | omega | simp <;> omega) (by first | omega | simp <;> omega)) rfl ?_
    refine JM rfl rfl ?_
    refine JN ?_
    refine J_back ((j + 1, v33)) ?_ ?_ ?_ ?_
    · exact ⟨by omega, by simp only; omega⟩
    · exact ⟨fe rfl (by first | rfl | exact vint_eq (by first | omega | simp <;> omega) | exact vsl_eq (by simp) | exact vstr_eq (by simp)), fe rfl (by first | rfl | exact vint_eq (by first | omega | simp <;> omega) | exact vsl_eq (by simp) | exact vstr_eq (by simp)), trivial⟩
    · exact ⟨rfl, rfl, rfl, trivial⟩
    · exact (Has.take (Repl.row (by repeat first | exact R0 | apply RT) (by rw [hstep j (by first | omega | simp <;> omega)])) Has.nil)
  try simp only [BS, ne_eq] at h2
  refine J_exit ?_
  refine J_then_exit ?_
  refine J_then_exit ?_
  refine J_blk_out ?_
  refine J_then_normal ?_
  refine JSR ?_
  obtain rfl : j = ll.length := (by first | omega | simp <;> omega)
  refine J_freezeR (sl := 6) (by repeat first | exact R0 | apply RT) rfl ?_
  refine JM rfl rfl ?_
  refine JA rfl rfl ?_
  refine JN ?_
  refine J_retc ?_
  exact J_ret1 rfl (ResAt.tmp rfl) () trivial Split.nil (imp_eq (by rw [List.take_length]))
end Go.Sep
