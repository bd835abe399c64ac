/- At a loop's head: sound. -/
import Derived.Test.YtggofahhehkbbaaGreatDoorEvReg
namespace Go.Proofs.YtggofahhehkbbaaGreatDoor.Ev
set_option autoImplicit false
set_option linter.unusedVariables false
set_option linter.unusedSimpArgs false

theorem mkB_get : ∀ (l : List Blk) (k : Nat), mkB l k = l[k]?
  | [], k => by simp [mkB]
  | b :: r, 0 => by simp [mkB]
  | b :: r, k + 1 => by simp [mkB, mkB_get r k]

theorem nrmBs_get (bk : Nat → Option Blk) (ids : List Nat) : ∀ (l : List Nat) (k : Nat), (nrmBs bk ids l)[k]? = (l[k]?).map fun id => match bk id with | some b => nrmBlk bk ids b | none => .box 0 []
  | [], k => by simp [nrmBs]
  | id :: r, 0 => by
    simp only [nrmBs]
    cases h : bk id <;> simp [h]
  | id :: r, k + 1 => by
    simp only [nrmBs]
    cases bk id <;> simpa using nrmBs_get bk ids r k

def isLive (bk : Nat → Option Blk) (id : Nat) : Prop := ∃ b, bk id = some b ∧ (∀ x, b ≠ x ∨ (x ≠ .lent ∧ x ≠ .gone))

theorem liveIds_spec (bk : Nat → Option Blk) : ∀ (n : Nat) (l seen : List Nat), seen.Nodup → (∀ i, i ∈ seen → isLive bk i) → (liveIds bk n l seen).Nodup ∧ ∀ i, i ∈ liveIds bk n l seen → isLive bk i
  | n, [], seen, h1, h2 => by
    have : liveIds bk n [] seen = seen.reverse := by cases n <;> rfl
    rw [this]
    exact ⟨(List.reverse_perm _).nodup_iff.2 h1, fun i hi => h2 i (by simpa using hi)⟩
  | 0, _ :: _, seen, h1, h2 => by
    simp only [liveIds]
    exact ⟨(List.reverse_perm _).nodup_iff.2 h1, fun i hi => h2 i (by simpa using hi)⟩
  | n + 1, id :: r, seen, h1, h2 => by
    simp only [liveIds]
    cases hm : memN id seen with
    | true => exact liveIds_spec bk n r seen h1 h2
    | false =>
      simp only [cond_false]
      have hs' : (id :: seen).Nodup := List.nodup_cons.2 ⟨memN_false hm, h1⟩
      cases hb : bk id with
      | none => exact liveIds_spec bk n r seen h1 h2
      | some b =>
        have hl : (∀ x, b ≠ x ∨ (x ≠ .lent ∧ x ≠ .gone)) → ∀ i, i ∈ id :: seen → isLive bk i := by
          intro hx i hi
          rcases List.mem_cons.1 hi with rfl | hi
          · exact ⟨b, hb, hx⟩
          · exact h2 i hi
        cases b with
        | box ty cs => exact liveIds_spec bk n _ _ hs' (hl fun x => by cases x <;> simp)
        | arr ep ty sz fz es => exact liveIds_spec bk n _ _ hs' (hl fun x => by cases x <;> simp)
        | map es => exact liveIds_spec bk n _ _ hs' (hl fun x => by cases x <;> simp)
        | lent => exact liveIds_spec bk n r seen h1 h2
        | gone => exact liveIds_spec bk n r seen h1 h2

theorem pre_get : ∀ {m a : Nat} {l : List Nat}, pre a m l = true → ∀ k, k < m → l[k]? = some (a + k)
  | 0, a, l, h, k, hk => by omega
  | m + 1, a, [], h, k, hk => by simp [pre] at h
  | m + 1, a, x :: r, h, k, hk => by
    simp only [pre, Bool.and_eq_true] at h
    have := beqN h.1
    cases k with
    | zero => simp [this]
    | succ k =>
      have := pre_get h.2 k (by omega)
      simp only [List.getElem?_cons_succ, this]
      congr 1
      omega

section
variable {B : Base} {bk : Nat → Option Blk} {w : World} {ι : Nat → Nat} {ids : List Nat}

def nbk (bk : Nat → Option Blk) (ids : List Nat) : Nat → Option Blk := mkB (nrmBs bk ids ids)
def nι (ι : Nat → Nat) (ids : List Nat) : Nat → Nat := fun k => ι (ids.getD k 0)

theorem nbk_get (hl : ∀ i, i ∈ ids → isLive bk i) {k : Nat} {x : Blk} (h : nbk bk ids k = some x) : ∃ id b, ids[k]? = some id ∧ bk id = some b ∧ x = nrmBlk bk ids b ∧ nι ι ids k = ι id := by
  unfold nbk at h
  rw [mkB_get, nrmBs_get] at h
  cases hk : ids[k]? with
  | none => rw [hk] at h; simp at h
  | some id =>
    rw [hk] at h
    obtain ⟨b, hb, _⟩ := hl id (List.mem_of_getElem? hk)
    simp only [Option.map_some, hb, Option.some.injEq] at h
    exact ⟨id, b, rfl, hb, h.symm, by simp [nι, hk]⟩

theorem nbk_of {k id : Nat} {b : Blk} (hk : ids[k]? = some id) (hb : bk id = some b) : nbk bk ids k = some (nrmBlk bk ids b) ∧ nι ι ids k = ι id := by
  refine ⟨?_, by simp [nι, hk]⟩
  unfold nbk
  rw [mkB_get, nrmBs_get, hk]
  simp [hb]

theorem nrmBlk_owned {b : Blk} (h : (nrmBlk bk ids b).owned = true) : b.owned = true := by
  cases b <;> simp [nrmBlk, Blk.owned] at h ⊢ <;> exact h

theorem nnav (hl : ∀ i, i ∈ ids → isLive bk i) {b : Nat} (h : nav B bk w ι b) : nav B (nbk bk ids) w (nι ι ids) b := by
  refine ⟨h.1, h.2.1, fun k x hx ho => ?_⟩
  obtain ⟨id, b', h1, h2, rfl, h3⟩ := nbk_get (ι := ι) hl hx
  rw [h3]
  exact h.2.2 id b' h2 (nrmBlk_owned ho)

mutual
theorem nrmA_sound (hs : SimB B bk w ι) (hl : ∀ i, i ∈ ids → isLive bk i) : ∀ (a : AV) (v : Value), AVRep (ctx B bk w ι) a v → AVRep (ctx B (nbk bk ids) w (nι ι ids)) (nrmA bk ids a) v
  | .p q, v, h => by
    simp only [nrmA, AVRep] at h ⊢
    exact h.mono fun b hb => ⟨nnav hl hb, fun _ => rfl⟩
  | .tsl es, v, h => by
    simp only [nrmA, AVRep] at h ⊢
    exact ⟨h.1.mono fun b hb => ⟨nnav hl hb, fun _ => rfl⟩, h.2⟩
  | .nl, v, h => by
    simp only [nrmA, AVRep] at h ⊢
    exact h
  | .own id ep, v, h => by
    have hone := AVRep.one _ _ h
    have hdead : AVRep (ctx B (nbk bk ids) w (nι ι ids)) .dead v := by simp only [AVRep]; exact hone
    simp only [nrmA]
    cases hb : bk id with
    | none => exact hdead
    | some b =>
      cases b with
      | arr ep' ty sz fz es =>
        simp only
        cases hep : Nat.beq ep ep' with
        | false => exact hdead
        | true =>
          have := beqN hep
          subst this
          simp only [cond_true]
          cases fz with
          | true =>
            simp only [AVRep]
            have h1 := frozen_rep (st := ⟨fun _ => .undef, bk, 0⟩) (bw := []) hs hb h
            exact h1.mono fun b hb => ⟨nnav hl hb, fun _ => rfl⟩
          | false =>
            simp only
            cases hk : idxN id ids 0 with
            | none => exact hdead
            | some k =>
              obtain ⟨_, h1⟩ := idxN_some hk
              rw [Nat.sub_zero] at h1
              obtain ⟨h2, h3⟩ := nbk_of (ι := ι) h1 hb
              simp only [AVRep] at h ⊢
              obtain ⟨b, h4, h5, h6⟩ := h
              simp only [ctx] at h4
              rw [hb] at h4
              simp only [Option.some.injEq] at h4
              subst h4
              refine ⟨_, h2, hone, fun ep2 ty2 sz2 fz2 es2 he => ?_⟩
              simp only [nrmBlk, Blk.arr.injEq] at he
              obtain ⟨rfl, rfl, rfl, rfl, rfl⟩ := he
              refine ⟨Nat.le_refl _, fun _ => ?_⟩
              have := (h6 _ _ _ _ _ rfl).2 rfl
              simp only [ctx] at this ⊢
              rw [h3]
              exact this
      | _ => exact hdead
  | .ptr id ep i off, v, h => by
    have hone := AVRep.one _ _ h
    have hdead : AVRep (ctx B (nbk bk ids) w (nι ι ids)) .dead v := by simp only [AVRep]; exact hone
    simp only [nrmA]
    cases hb : bk id with
    | none => exact hdead
    | some b =>
      cases b with
      | box ty cs =>
        simp only
        split
        · rename_i k hk
          obtain ⟨_, h1⟩ := idxN_some hk
          rw [Nat.sub_zero] at h1
          obtain ⟨h2, h3⟩ := nbk_of (ι := ι) h1 hb
          simp only [AVRep] at h ⊢
          obtain ⟨b, h4, h5, h6, _⟩ := h
          simp only [ctx] at h4
          rw [hb] at h4
          simp only [Option.some.injEq] at h4
          subst h4
          refine ⟨_, h2, hone, fun _ cs' _ _ _ => ?_, fun ep2 ty2 sz2 fz2 es2 he => by simp [nrmBlk] at he⟩
          have := h6 _ _ rfl rfl rfl
          simp only [ctx] at this ⊢
          rw [h3]
          exact this
        · exact hdead
      | arr ep' ty sz fz es =>
        simp only
        cases hep : Nat.beq ep ep' with
        | false => exact hdead
        | true =>
          have := beqN hep
          subst this
          simp only [cond_true]
          cases hk : idxN id ids 0 with
          | none => exact hdead
          | some k =>
            obtain ⟨_, h1⟩ := idxN_some hk
            rw [Nat.sub_zero] at h1
            obtain ⟨h2, h3⟩ := nbk_of (ι := ι) h1 hb
            simp only [AVRep] at h ⊢
            obtain ⟨b, h4, h5, _, h6⟩ := h
            simp only [ctx] at h4
            rw [hb] at h4
            simp only [Option.some.injEq] at h4
            subst h4
            refine ⟨_, h2, hone, fun _ cs' he => by simp [nrmBlk] at he, fun ep2 ty2 sz2 fz2 es2 he => ?_⟩
            simp only [nrmBlk, Blk.arr.injEq] at he
            obtain ⟨rfl, rfl, rfl, rfl, rfl⟩ := he
            refine ⟨Nat.le_refl _, fun _ => ?_⟩
            have := (h6 _ _ _ _ _ rfl).2 rfl
            simp only [ctx] at this ⊢
            rw [h3]
            exact this
      | _ => exact hdead
  | .mp id, v, h => by
    have hone := AVRep.one _ _ h
    have hdead : AVRep (ctx B (nbk bk ids) w (nι ι ids)) .dead v := by simp only [AVRep]; exact hone
    simp only [nrmA]
    split
    · rename_i es k hb hk
      obtain ⟨_, h1⟩ := idxN_some hk
      rw [Nat.sub_zero] at h1
      obtain ⟨h2, h3⟩ := nbk_of (ι := ι) h1 hb
      simp only [AVRep] at h ⊢
      obtain ⟨b, h4, h5, h6⟩ := h
      simp only [ctx] at h4
      rw [hb] at h4
      simp only [Option.some.injEq] at h4
      subst h4
      refine ⟨_, h2, hone, fun es' he => ?_⟩
      have := h6 _ rfl
      simp only [ctx] at this ⊢
      rw [h3]
      exact this
    · exact hdead
  | .clo fn f c, v, h => by
    simp only [nrmA, AVRep] at h ⊢
    obtain ⟨F, K, rfl, h1, h2⟩ := h
    exact ⟨F, K, rfl, nrmL_sound hs hl f _ h1, nrmL_sound hs hl c _ h2⟩
  | .ifc t g cs, v, h => by
    simp only [nrmA, AVRep] at h ⊢
    obtain ⟨C, h1, h2⟩ := h
    exact ⟨C, nrmL_sound hs hl cs _ h1, h2⟩
  | .dead, v, h => by simp only [nrmA, AVRep] at h ⊢; exact h
  | .fresh _ _ _, v, h => by simp only [AVRep] at h
theorem nrmL_sound (hs : SimB B bk w ι) (hl : ∀ i, i ∈ ids → isLive bk i) : ∀ (as : List AV) (vs : List Value), AVRepL (ctx B bk w ι) as vs → AVRepL (ctx B (nbk bk ids) w (nι ι ids)) (nrmL bk ids as) vs
  | [], vs, h => by simp only [nrmL, AVRepL] at h ⊢; exact h
  | a :: r, vs, h => by
    simp only [nrmL, AVRepL] at h ⊢
    obtain ⟨v, vs', rfl, h1, h2⟩ := h
    exact ⟨v, vs', rfl, nrmA_sound hs hl a v h1, nrmL_sound hs hl r vs' h2⟩
end

theorem nrmC_sound (hs : SimB B bk w ι) (hl : ∀ i, i ∈ ids → isLive bk i) {g : Bool} {cs : List AV} {v : Value} (h : VRepC (ctx B bk w ι) g cs v) : VRepC (ctx B (nbk bk ids) w (nι ι ids)) g (nrmL bk ids cs) v := by
  cases g with
  | true => obtain ⟨C, rfl, h⟩ := h; exact ⟨C, rfl, nrmL_sound hs hl _ _ h⟩
  | false => exact nrmL_sound hs hl _ _ h

theorem nrmT_sound (hs : SimB B bk w ι) (hl : ∀ i, i ∈ ids → isLive bk i) : ∀ {vs : Args} {us : List Value}, VRepT (ctx B bk w ι) vs us → VRepT (ctx B (nbk bk ids) w (nι ι ids)) (vs.map fun x => (x.1, nrmL bk ids x.2)) us
  | [], us, h => h
  | (g, cs) :: r, us, h => by
    obtain ⟨v, us', rfl, h1, h2⟩ := h
    exact ⟨v, us', rfl, nrmC_sound hs hl h1, nrmT_sound hs hl h2⟩

theorem nrmV_sound (hs : SimB B bk w ι) (hl : ∀ i, i ∈ ids → isLive bk i) {x : AVal} {v : Value} (h : VRep (ctx B bk w ι) x v) : VRep (ctx B (nbk bk ids) w (nι ι ids)) (nrmV bk ids x) v := by
  cases x with
  | v g cs => exact nrmC_sound hs hl h
  | tup vs => obtain ⟨C, rfl, h⟩ := h; exact ⟨C, rfl, nrmT_sound hs hl h⟩
  | undef => trivial

theorem nrmEnt_sound (hs : SimB B bk w ι) (hl : ∀ i, i ∈ ids → isLive bk i) : ∀ {es : List (Value × Bool × List AV)} {ms : List MapEntry}, EntRep (ctx B bk w ι) es ms → EntRep (ctx B (nbk bk ids) w (nι ι ids)) (es.map fun e => (e.1, e.2.1, nrmL bk ids e.2.2)) ms
  | [], ms, h => h
  | (k, g, cs) :: r, ms, h => by
    obtain ⟨m, ms', rfl, h0, h1, h2, h3⟩ := h
    exact ⟨m, ms', rfl, h0, h1, nrmC_sound hs hl h2, nrmEnt_sound hs hl h3⟩

theorem nrmSimB (hs : SimB B bk w ι) (hl : ∀ i, i ∈ ids → isLive bk i) (hn : ids.Nodup) : SimB B (nbk bk ids) w (nι ι ids) := by
  refine ⟨hs.keep, fun k x hx ho => ?_, fun i j x y hx hy h1 h2 he => ?_, fun k x hx => ?_⟩
  · obtain ⟨id, b, h1, h2, rfl, h3⟩ := nbk_get (ι := ι) hl hx
    rw [h3]
    exact hs.terr id b h2 (nrmBlk_owned ho)
  · obtain ⟨id, b, h3, h4, rfl, h5⟩ := nbk_get (ι := ι) hl hx
    obtain ⟨id', b', h6, h7, rfl, h8⟩ := nbk_get (ι := ι) hl hy
    rw [h5, h8] at he
    have := hs.inj id id' b b' h4 h7 (nrmBlk_owned h1) (nrmBlk_owned h2) he
    subst this
    exact (List.getElem?_inj (List.getElem?_eq_some_iff.1 h3).1 hn).1 (by rw [h3, h6])
  · obtain ⟨id, b, h1, h2, rfl, h3⟩ := nbk_get (ι := ι) hl hx
    have hb := hs.blks id b h2
    cases b with
    | box ty cs =>
      obtain ⟨C, f, h4, h5, h6⟩ := hb
      exact ⟨C, f, by simp only [ctx] at h4 ⊢; rw [h3]; exact h4, h5, nrmL_sound hs hl _ _ h6⟩
    | arr ep ty sz fz es =>
      cases fz with
      | false =>
        obtain ⟨C, f, h4, h5, h6, h7⟩ := hb
        exact ⟨C, f, by simp only [ctx] at h4 ⊢; rw [h3]; exact h4, h5, h6, h7.monoN fun b hb => nnav hl hb⟩
      | true =>
        obtain ⟨h4, h5⟩ := hb
        simp only [ctx] at h4 h5
        refine ⟨?_, ?_⟩
        · simp only [ctx]
          rw [h3]
          exact h4.monoN fun b hb => nnav hl hb
        · simp only [ctx]
          rw [h3]
          exact nnav hl h5
    | map es =>
      obtain ⟨ms, ck, h4, hst, h5⟩ := hb
      exact ⟨ms, ck, by simp only [ctx] at h4 ⊢; rw [h3]; exact h4, hst, nrmEnt_sound hs hl h5⟩
    | lent =>
      obtain ⟨b, hb1, hb2⟩ := hl id (List.mem_of_getElem? h1)
      rw [h2] at hb1
      simp only [Option.some.injEq] at hb1
      subst hb1
      have := hb2 .lent
      simp at this
    | gone => trivial
end

theorem mkT_get : ∀ (l : List (Nat × AVal)) (t : Nat), mkT l t = .undef ∨ (t, mkT l t) ∈ l
  | [], t => .inl rfl
  | (k, x) :: r, t => by
    simp only [mkT]
    cases hk : Nat.beq k t with
    | true => right; simp [beqN hk]
    | false =>
      rcases mkT_get r t with h | h
      · left; simpa using h
      · right; simp [h]

theorem nrmSt_sound {B : Base} {κ : Kp} {n m : Nat} {live : List Nat} {st st' : St} {a : Act} {w : World} (hm : κ.m = m) (he : nrmSt m live st = some st') (hi : Inv B κ n st a w) : Inv B κ n st' a w := by
  unfold nrmSt at he
  simp only at he
  generalize hids : liveIds st.bk 1000 (rangeL 0 m ++ live.flatMap fun t => refV st.bk (st.tm t)) [] = ids at he
  obtain ⟨hn, hl⟩ := liveIds_spec st.bk 1000 (rangeL 0 m ++ live.flatMap fun t => refV st.bk (st.tm t)) [] List.nodup_nil (fun i hi => by simp at hi)
  rw [hids] at hn hl
  split at he
  · rename_i hp
    simp only [Option.some.injEq] at he
    subst he
    obtain ⟨ι, hs, hk⟩ := hi.sim
    refine ⟨hi.defers, hi.size, nι ι ids, ⟨nrmSimB hs.toSimB hl hn, fun t => ?_⟩, fun k hkm => ?_⟩
    · rcases mkT_get (live.map fun t => (t, nrmV st.bk ids (st.tm t))) t with h | h
      · simp only [h]; trivial
      · obtain ⟨t', _, h2⟩ := List.mem_map.1 h
        simp only [Prod.mk.injEq] at h2
        obtain ⟨rfl, h2⟩ := h2
        simp only [← h2]
        exact nrmV_sound hs.toSimB hl (hs.tmps t')
    · obtain ⟨b, hb, h1⟩ := hk k hkm
      have h2 := pre_get hp k (by omega)
      rw [Nat.zero_add] at h2
      obtain ⟨h3, h4⟩ := nbk_of (ι := ι) h2 hb
      refine ⟨_, h3, fun h0 => ?_⟩
      have hkd : kdOf (some (nrmBlk st.bk ids b)) = kdOf (some b) := by cases b <;> rfl
      rw [hkd] at h0 ⊢
      rw [h4]
      exact h1 h0
  · simp at he

end Go.Proofs.YtggofahhehkbbaaGreatDoor.Ev
