/- A region in any order: the whole. -/
import Derived.Test.YtggofahhehkbbaaGreatDoorEvDrawC
namespace Go.Proofs.YtggofahhehkbbaaGreatDoor.Ev
set_option autoImplicit false
set_option linter.unusedVariables false
set_option linter.unusedSimpArgs false

structure JInv (B : Base) (κ : Kp) (n : Nat) (ops : Array Oper) (us : List Upd) (st0 : St) (pn : Option (Nat × AV)) (fuel : Nat) (listed : Array Bool) (a : Act) (w : World) : Prop where
  size : listed.size = ops.size
  cnt : listed.toList.count false ≤ fuel
  closed : Closed ops.toList fun k => listed.getD k false
  pn : ∀ p x, pn = some (p, x) → listed.getD p false = false
  inv : Inv B κ n (apS (fun k => listed.getD k false) us 0 st0) a w

theorem draw_wp {E : Env} {h : Handler} {B : Base} {κ : Kp} {n : Nat} (hh : HSound E h) (hB : BaseOK B) (hg : GlobOK E B) {ops : Array Oper} {base : Nat} {us : List Upd} {st0 : St} {pn : Option (Nat × AV)} (hd : DstOK κ n ops.toList)
    (tr : Trace E h base ops.toList ops.toList (beforeL ops.toList []) 0 st0 none pn us) (hok : okEffs (beforeL ops.toList []) (us.map (·.eff)) [] 0 = true) (heb : edgesBack ops.toList 0 = true)
    (hq : ∀ p x, pn = some (p, x) → quietBut (((beforeL ops.toList [])[p]?).getD 0) p (us.map (·.eff)) 0 = true) {Q : Exit → Act → World → Prop}
    (hN : pn = none → ∀ a w, Inv B κ n (appAll us st0) a w → Q .normal a w) (hP : ∀ p x, pn = some (p, x) → ∀ chain a w, Panicked B κ (appAll us st0).bk x chain a w → Q (.panic chain) a w) :
    ∀ (fuel : Nat) (listed : Array Bool) (a : Act) (w : World), JInv B κ n ops us st0 pn fuel listed a w → wpAny E.P .any ops Q fuel listed a w := by
  have hlen : us.length = ops.size := by rw [tr.len]; simp
  have hwf : ∀ (j : Nat) u, us[j]? = some u → u.wf := by
    intro j u hu
    obtain ⟨o, m, _, _, h1⟩ := tr.step j u hu
    rcases h1 with h1 | ⟨rfl, _⟩
    · exact opF_wf h1
    · exact noUpd_wf
  have hgood : ∀ (k m : Nat), (beforeL ops.toList [])[k]? = some m → GoodM ops.toList k m :=
    beforeL_good ops.toList [] 0 rfl (fun j _ => by rw [Nat.zero_add]) (fun k m hk => by simp at hk)
  have hap : ∀ (i j : Nat) u v, us[i]? = some u → us[j]? = some v → i < j → ∃ m, (beforeL ops.toList [])[j]? = some m ∧ (Nat.testBit m i = true ∨ Eff.apart u.eff v.eff = true) := by
    intro i j u v hu hv hij
    obtain ⟨m, h1, h2⟩ := okEffs_spec hok rfl j v.eff (by rw [List.getElem?_map, hv]; rfl)
    exact ⟨m, h1, h2 i u.eff (by rw [List.nil_append, List.getElem?_map, hu]; rfl) (by omega)⟩
  -- nothing is ready: all has come up
  have hall : ∀ (listed : Array Bool), listed.size = ops.size → Region.ready .any ops listed = [] → ∀ k, k < ops.size → listed.getD k false = true := by
    intro listed hs hr k
    induction k using Nat.strongRecOn with
    | _ k ih =>
      intro hk
      cases hl : listed.getD k false with
      | true => rfl
      | false =>
        have hkl : k < listed.size := by omega
        have hl2 : listed.getD k true = false := by
          simp [Array.getD, hkl] at hl ⊢
          exact hl
        have hmem : k ∈ Region.ready .any ops listed := by
          unfold Region.ready
          rw [List.mem_filter]
          refine ⟨by simpa using hk, ?_⟩
          rw [hl2]
          simp only [Bool.not_false, Bool.true_and]
          have ho : ops[k]? = some ops[k] := Array.getElem?_eq_getElem hk
          rw [ho]
          simp only [Option.map_some, Option.getD_some]
          rw [Array.all_eq_true_iff_forall_mem]
          intro e he
          cases hb : Region.binds .any e with
          | false => rfl
          | true =>
            simp only [Bool.not_true, Bool.false_or]
            have hlt := edgesBack_spec heb k ops[k] (by rw [Array.getElem?_toList]; exact ho) e he hb
            exact ih e.on (by omega) (by omega)
        rw [hr] at hmem
        simp at hmem
  have hnorm : ∀ (fuel : Nat) (listed : Array Bool) (a : Act) (w : World), JInv B κ n ops us st0 pn fuel listed a w → Region.ready .any ops listed = [] → Q .normal a w := by
    intro fuel listed a w hj hr
    have ha := hall listed hj.size hr
    refine hN ?_ a w ?_
    · cases hp : pn with
      | none => rfl
      | some px =>
        obtain ⟨p, x⟩ := px
        obtain ⟨j, u, h1, h2, _⟩ := tr.pan2 p x rfl hp
        have hlt := (List.getElem?_eq_some_iff.1 h2).1
        have := hj.pn p x hp
        rw [ha p (by omega)] at this
        simp at this
    · have := hj.inv
      rw [apS_all us 0 st0 fun j hjl => by rw [Nat.zero_add]; exact ha j (by omega)] at this
      exact this
  intro fuel
  induction fuel with
  | zero =>
    intro listed a w hj
    have hr : Region.ready .any ops listed = [] := by
      unfold Region.ready
      rw [List.filter_eq_nil_iff]
      intro i hi
      have hi : i < ops.size := by simpa using hi
      have hil : i < listed.size := by rw [hj.size]; exact hi
      have h0 : listed.toList.count false = 0 := Nat.le_zero.1 hj.cnt
      have : listed[i] = true := by
        cases hv : listed[i] with
        | true => rfl
        | false =>
          have hm : false ∈ listed.toList := by
            rw [← hv]
            simp
          have := List.count_pos_iff.2 hm
          omega
      have hg2 : listed.getD i true = true := by simp [Array.getD, hil, this]
      rw [hg2]
      simp
    exact ⟨hr, hnorm 0 listed a w hj hr⟩
  | succ fuel ih =>
    intro listed a w hj
    refine ⟨fun hr => hnorm _ listed a w hj hr, fun i hi => ?_⟩
    unfold Region.ready at hi
    rw [List.mem_filter] at hi
    obtain ⟨hi1, hi2⟩ := hi
    have hi1 : i < ops.size := by simpa using hi1
    have hil : i < listed.size := by rw [hj.size]; exact hi1
    have ho : ops[i]? = some ops[i] := Array.getElem?_eq_getElem hi1
    rw [ho] at hi2
    simp only [Option.map_some, Option.getD_some, Bool.and_eq_true, Bool.not_eq_true'] at hi2
    obtain ⟨hni, hed⟩ := hi2
    rw [Array.all_eq_true_iff_forall_mem] at hed
    have hSi : listed.getD i false = false := by
      simp [Array.getD, hil] at hni ⊢
      exact hni
    have hAi : AheadOf ops.toList (fun k => listed.getD k false) i := by
      intro o' ho' e he hb
      rw [Array.getElem?_toList, ho] at ho'
      simp only [Option.some.injEq] at ho'
      subst ho'
      have := hed e he
      rw [hb] at this
      simpa using this
    obtain ⟨u, hu⟩ : ∃ u, us[i]? = some u := ⟨_, List.getElem?_eq_getElem (by omega)⟩
    obtain ⟨o', m, h1, h2, h3⟩ := tr.step i u hu
    rw [Array.getElem?_toList, ho] at h1
    simp only [Option.some.injEq] at h1
    subst h1
    have hm := hgood i m h2 _ hj.closed hAi
    have hF : opF E h (base + 64 * (0 + i)) ops.toList ops[i] (appAll (us.take i) st0) = some u := by
      rcases h3 with h3 | ⟨_, p, x, h4, h5⟩
      · exact h3
      · have := hm p h5
        rw [hj.pn p x h4] at this
        simp at this
    -- a later one that has come up does not touch it
    have hlater : ∀ (j : Nat) v, us[j]? = some v → i < j → listed.getD j false = true → Eff.apart u.eff v.eff = true := by
      intro j v hv hij hS
      obtain ⟨m', h4, h5⟩ := hap i j u v hu hv hij
      rcases h5 with h5 | h5
      · have hjo : j < ops.size := by have := (List.getElem?_eq_some_iff.1 hv).1; omega
        have := hgood j m' h4 _ hj.closed (fun o' ho' e he hb => hj.closed j o' hS ho' e he hb) i h5
        rw [hSi] at this
        simp at this
      · exact h5
    have hsame : ∀ (j : Nat) v, us[j]? = some v → (j < i → Eff.apart v.eff u.eff = true → False) → (i < j → Eff.apart u.eff v.eff = true → False) → listed.getD (0 + j) false = decide (0 + j < 0 + i) := by
      intro j v hv hlt hgt
      rw [Nat.zero_add, Nat.zero_add]
      rcases Nat.lt_trichotomy j i with hji | hji | hji
      · rw [decide_eq_true hji]
        obtain ⟨m', h4, h5⟩ := hap j i v u hv hu hji
        rw [h2] at h4
        simp only [Option.some.injEq] at h4
        subst h4
        rcases h5 with h5 | h5
        · exact hm j h5
        · exact (hlt hji h5).elim
      · subst hji
        rw [hSi]
        simp
      · rw [decide_eq_false (by omega)]
        cases hS : listed.getD j false with
        | false => rfl
        | true => exact (hgt hji (hlater j v hv hji hS)).elim
    have hF' : opF E h (base + 64 * (0 + i)) ops.toList ops[i] (apS (fun k => listed.getD k false) us 0 st0) = some u := by
      rw [← apS_take us 0 i st0] at hF
      refine opF_local hF (fun t ht => apS_tm us 0 st0 st0 rfl fun j v hv hvd => ?_) (fun id hid => apS_bk us 0 st0 st0 rfl fun j v hv hvb => ?_)
      · have htw := (hwf j v hv).tw t hvd
        refine hsame j v hv (fun _ hap' => ?_) (fun _ hap' => ?_)
        · simp only [Eff.apart, Bool.and_eq_true] at hap'
          exact apartN_spec hap'.1.1.1.1.1 t htw ht
        · simp only [Eff.apart, Bool.and_eq_true] at hap'
          exact apartN_spec hap'.1.1.1.2 t htw ht
      · have htw : id ∈ v.eff.bw := by rw [(hwf j v hv).bw]; exact mem_bwIds hvb
        refine hsame j v hv (fun _ hap' => ?_) (fun _ hap' => ?_)
        · simp only [Eff.apart, Bool.and_eq_true] at hap'
          exact apartN_spec hap'.1.1.2 id htw hid
        · simp only [Eff.apart, Bool.and_eq_true] at hap'
          exact apartN_spec hap'.2 id htw hid
    have hS' : ∀ k, (listed.setIfInBounds i true).getD k false = if k = i then true else listed.getD k false := by
      intro k
      simp only [Array.getD_eq_getD_getElem?, Array.getElem?_setIfInBounds]
      by_cases hk : i = k
      · subst hk; simp [hil]
      · simp [hk, Ne.symm hk]
    have hstep : apS (fun k => (listed.setIfInBounds i true).getD k false) us 0 st0 = u.app (apS (fun k => listed.getD k false) us 0 st0) := by
      refine apS_add us 0 i st0 hu (by rw [Nat.zero_add]; exact hSi) (by rw [Nat.zero_add, hS']; simp) (fun j hj' => by rw [hS', if_neg (by omega)]) fun j v hv hij hS => ?_
      rw [Nat.zero_add] at hS
      have hap' := hlater j v hv hij hS
      simp only [Eff.apart, Bool.and_eq_true] at hap'
      refine ⟨fun t ht hvt => apartN_spec hap'.1.1.1.1.2 t ((hwf i u hu).tw t ht) ((hwf j v hv).tw t hvt), fun id hid => ?_⟩
      cases hf : BW.find v.bw id with
      | none => rfl
      | some b =>
        have h6 : id ∈ u.eff.bw := by rw [(hwf i u hu).bw]; exact mem_bwIds hid
        have h7 : id ∈ v.eff.bw := by rw [(hwf j v hv).bw]; exact mem_bwIds (by rw [hf]; simp)
        exact absurd h7 (apartN_spec hap'.1.2 id h6)
    unfold wpOp
    rw [ho]
    simp only
    have hmem : ops[i] ∈ ops.toList := by simp
    have hgo := opF_wp hh hB hg hd hmem hF' hj.inv (next := wpAny E.P .any ops Q fuel (listed.setIfInBounds i true)) (Q := Q) (fun hpan a' w' hi' => ?_) (fun x hpan chain a' w' hpp => ?_)
    · split
      · rename_i hw; rw [if_pos hw] at hgo; exact .inl hgo
      · rename_i hw; rw [if_neg hw] at hgo; exact hgo
    · refine ih _ a' w' ⟨by simp [hj.size], ?_, fun k o' hk ho' e he hb => ?_, fun p x hp => ?_, ?_⟩
      · have hli : listed.toList[i]? = some false := by
          rw [Array.getElem?_toList, Array.getElem?_eq_getElem hil]
          simp [Array.getD, hil] at hSi
          rw [hSi]
        have := count_set listed.toList i hli
        rw [Array.toList_setIfInBounds]
        have := hj.cnt
        omega
      · simp only at hk ⊢
        rw [hS'] at hk ⊢
        split
        · rfl
        · by_cases hki : k = i
          · subst hki; exact hAi o' ho' e he hb
          · rw [if_neg hki] at hk; exact hj.closed k o' hk ho' e he hb
      · rw [hS']
        split
        · rename_i hpi
          subst hpi
          obtain ⟨j, u', h4, h5, h6⟩ := tr.pan2 p x rfl hp
          rw [Nat.zero_add] at h4
          subst h4
          rw [hu] at h5
          simp only [Option.some.injEq] at h5
          subst h5
          rw [hpan] at h6
          simp at h6
        · exact hj.pn p x hp
      · rw [hstep]; exact hi'
    · have hp := tr.pan i u hu x hpan
      rw [Nat.zero_add] at hp
      refine hP i x hp chain a' w' ?_
      have hbk : (u.app (apS (fun k => listed.getD k false) us 0 st0)).bk = (appAll us st0).bk := by
        funext id
        rw [← hstep, ← apS_all (S := fun _ => true) us 0 st0 (fun _ _ => rfl)]
        refine apS_bk us 0 st0 st0 rfl fun j v hv hvb => ?_
        rw [Nat.zero_add, hS']
        split
        · rfl
        · rename_i hji
          have hqq := hq i x hp
          rw [h2] at hqq
          rcases quietBut_spec hqq j v.eff (by rw [List.getElem?_map, hv]; rfl) with h4 | h4 | h4
          · omega
          · rw [Nat.zero_add] at h4; exact hm j h4
          · have := mem_bwIds hvb
            rw [← (hwf j v hv).bw, h4] at this
            simp at this
      rw [← hbk]
      exact hpp

end Go.Proofs.YtggofahhehkbbaaGreatDoor.Ev
