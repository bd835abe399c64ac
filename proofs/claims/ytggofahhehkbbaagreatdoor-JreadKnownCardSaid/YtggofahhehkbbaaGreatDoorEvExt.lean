/- What a step leaves as it was. -/
import Derived.Test.YtggofahhehkbbaaGreatDoorEvRep
namespace Go.Proofs.YtggofahhehkbbaaGreatDoor.Ev
set_option autoImplicit false

def Compat (c c' : RepCtx) (id : Nat) (b : Blk) : Blk → Prop
  | .box _ _ => (∃ ty cs, b = .box ty cs) ∧ c'.ι id = c.ι id
  | .arr ep' _ sz' fz' es' => ∃ ep ty sz fz es, b = .arr ep ty sz fz es ∧ (ep < ep' ∨ (ep = ep' ∧ sz' = sz ∧ es'.length = es.length ∧ c'.ι id = c.ι id ∧
      (fz' = false → fz = false ∧ ∀ C T f, c.w.heap[c.ι id]? = some (.cells C T f) → ∃ C' T' f', c'.w.heap[c.ι id]? = some (.cells C' T' f') ∧ C'.size = C.size)))
  | .map _ => (∃ es, b = .map es) ∧ c'.ι id = c.ι id
  | .lent => True
  | .gone => True

structure Ext (c c' : RepCtx) : Prop where
  rep : ∀ b, c.N b → c'.N b ∧ (b < c.w.heap.size → c'.w.heap[b]? = c.w.heap[b]?)
  bk : ∀ id b, c.bk id = some b → ∃ b', c'.bk id = some b' ∧ Compat c c' id b b'

theorem OwnSl.ext {c c' : RepCtx} (h : Ext c c') {id ep : Nat} {v : Value} (hv : OwnSl c id ep v) : OwnSl c' id ep v := by
  obtain ⟨b, hb, h1, hv⟩ := hv
  obtain ⟨b', hb', hc⟩ := h.bk id b hb
  refine ⟨b', hb', h1, ?_⟩
  rintro ep' ty' sz' fz' es' rfl
  obtain ⟨ep0, ty, sz, fz, es, rfl, hlt | ⟨rfl, rfl, hl, hι, hf⟩⟩ := hc
  · have := (hv _ _ _ _ _ rfl).1
    exact ⟨by omega, fun he => by omega⟩
  · obtain ⟨hle, hv⟩ := hv _ _ _ _ _ rfl
    refine ⟨hle, fun he => ?_⟩
    obtain ⟨cap, rfl, hcap, hcell⟩ := hv he
    refine ⟨cap, by rw [hl, hι], by omega, fun hfz => ?_⟩
    obtain ⟨hf1, hf2⟩ := hf hfz
    obtain ⟨C, T, f, hC, hs⟩ := hcell hf1
    obtain ⟨C', T', f', hC', hs'⟩ := hf2 C T f hC
    exact ⟨C', T', f', by rw [hι]; exact hC', by omega⟩

theorem OwnPtr.ext {c c' : RepCtx} (h : Ext c c') {id ep i off : Nat} {v : Value} (hv : OwnPtr c id ep i off v) : OwnPtr c' id ep i off v := by
  obtain ⟨b, hb, h1, h2, h3⟩ := hv
  obtain ⟨b', hb', hc⟩ := h.bk id b hb
  refine ⟨b', hb', h1, ?_, ?_⟩
  · rintro ty cs rfl he hi
    obtain ⟨⟨ty0, cs0, rfl⟩, hι⟩ := hc
    rw [hι]
    exact h2 _ _ rfl he hi
  · rintro ep' ty' sz' fz' es' rfl
    obtain ⟨ep0, ty, sz, fz, es, rfl, hlt | ⟨rfl, rfl, hl, hι, hf⟩⟩ := hc
    · have := (h3 _ _ _ _ _ rfl).1
      exact ⟨by omega, fun he => by omega⟩
    · obtain ⟨hle, hv⟩ := h3 _ _ _ _ _ rfl
      refine ⟨hle, fun he => ?_⟩
      obtain ⟨hi, rfl⟩ := hv he
      exact ⟨by omega, by rw [hι]⟩

theorem OwnMap.ext {c c' : RepCtx} (h : Ext c c') {id : Nat} {v : Value} (hv : OwnMap c id v) : OwnMap c' id v := by
  obtain ⟨b, hb, h1, hv⟩ := hv
  obtain ⟨b', hb', hc⟩ := h.bk id b hb
  refine ⟨b', hb', h1, ?_⟩
  rintro es rfl
  obtain ⟨⟨es0, rfl⟩, hι⟩ := hc
  rw [hι]
  exact hv _ rfl

mutual
theorem AVRep.ext {c c' : RepCtx} (h : Ext c c') : ∀ (a : AV) (v : Value), AVRep c a v → AVRep c' a v
  | .p q, v, hv => by simp only [AVRep] at hv ⊢; exact hv.mono h.rep
  | .tsl es, v, hv => by simp only [AVRep] at hv ⊢; exact ⟨hv.1.mono h.rep, hv.2⟩
  | .nl, v, hv => by simp only [AVRep] at hv ⊢; exact hv
  | .own id ep, v, hv => by simp only [AVRep] at hv ⊢; exact hv.ext h
  | .ptr id ep i off, v, hv => by simp only [AVRep] at hv ⊢; exact hv.ext h
  | .mp id, v, hv => by simp only [AVRep] at hv ⊢; exact hv.ext h
  | .clo fn f k, v, hv => by
    simp only [AVRep] at hv ⊢
    obtain ⟨F, K, rfl, h1, h2⟩ := hv
    exact ⟨F, K, rfl, AVRepL.ext h f _ h1, AVRepL.ext h k _ h2⟩
  | .ifc t g cs, v, hv => by
    simp only [AVRep] at hv ⊢
    obtain ⟨C, h1, h2⟩ := hv
    exact ⟨C, AVRepL.ext h cs _ h1, h2⟩
  | .fresh _ _ _, v, hv => by simp only [AVRep] at hv
  | .dead, v, hv => by simp only [AVRep] at hv ⊢; exact hv
theorem AVRepL.ext {c c' : RepCtx} (h : Ext c c') : ∀ (as : List AV) (vs : List Value), AVRepL c as vs → AVRepL c' as vs
  | [], vs, hv => by simp only [AVRepL] at hv ⊢; exact hv
  | a :: r, vs, hv => by
    simp only [AVRepL] at hv ⊢
    obtain ⟨v, vs', rfl, h1, h2⟩ := hv
    exact ⟨v, vs', rfl, AVRep.ext h a v h1, AVRepL.ext h r vs' h2⟩
end

theorem VRepC.ext {c c' : RepCtx} (h : Ext c c') {g : Bool} {cs : List AV} {v : Value} (hv : VRepC c g cs v) : VRepC c' g cs v := by
  cases g
  · exact AVRepL.ext h _ _ hv
  · obtain ⟨C, rfl, hC⟩ := hv
    exact ⟨C, rfl, AVRepL.ext h _ _ hC⟩

theorem VRepT.ext {c c' : RepCtx} (h : Ext c c') : ∀ {vs : List (Bool × List AV)} {us : List Value}, VRepT c vs us → VRepT c' vs us
  | [], us, hv => hv
  | (g, cs) :: r, us, hv => by
    obtain ⟨v, vs', rfl, h1, h2⟩ := hv
    exact ⟨v, vs', rfl, h1.ext h, VRepT.ext h h2⟩

theorem VRep.ext {c c' : RepCtx} (h : Ext c c') {x : AVal} {v : Value} (hv : VRep c x v) : VRep c' x v := by
  cases x with
  | v g cs => exact VRepC.ext h hv
  | tup vs => obtain ⟨C, rfl, hC⟩ := hv; exact ⟨C, rfl, VRepT.ext h hC⟩
  | undef => trivial

theorem EntRep.ext {c c' : RepCtx} (h : Ext c c') : ∀ {es : List (Value × Bool × List AV)} {ms : List MapEntry}, EntRep c es ms → EntRep c' es ms
  | [], ms, hv => hv
  | (k, g, cs) :: r, ms, hv => by
    obtain ⟨m, ms', rfl, h0, h1, h2, h3⟩ := hv
    exact ⟨m, ms', rfl, h0, h1, h2.ext h, EntRep.ext h h3⟩

theorem ArrCells.mono {w w' : World} {N N' : Nat → Prop} (hm : ∀ b, N b → N' b ∧ (b < w.heap.size → w'.heap[b]? = w.heap[b]?)) {sz : Nat} {es : List (List PV)} {get get' : Nat → Option Value}
    (hg : ∀ (i : Nat) e (j : Nat) q v, es[i]? = some e → e[j]? = some q → get (i * sz + j) = some v → get' (i * sz + j) = some v) (h : ArrCells w N sz es get) : ArrCells w' N' sz es get' :=
  ⟨h.1, h.2.1, fun i e j q h1 h2 => let ⟨v, h3, h4⟩ := h.2.2 i e j q h1 h2; ⟨v, hg i e j q v h1 h2 h3, h4.mono hm⟩⟩

/-- A block that stays where it is, and as it is. -/
theorem BRep.ext {c c' : RepCtx} (h : Ext c c') {id : Nat} {x : Blk} (hι : c'.ι id = c.ι id) (hw : x.owned = true → c'.w.heap[c.ι id]? = c.w.heap[c.ι id]?) (hv : BRep c id x) : BRep c' id x := by
  cases x with
  | box ty cs =>
    obtain ⟨C, f, h1, h2, h3⟩ := hv
    exact ⟨C, f, by rw [hι, hw rfl]; exact h1, h2, AVRepL.ext h _ _ h3⟩
  | arr ep ty sz fz es =>
    cases fz with
    | false =>
      obtain ⟨C, f, h1, h2, h3, h4⟩ := hv
      exact ⟨C, f, by rw [hι, hw rfl]; exact h1, h2, h3, h4.mono h.rep fun _ _ _ _ _ _ _ h => h⟩
    | true =>
      obtain ⟨h1, h2⟩ := hv
      refine ⟨h1.mono h.rep fun i e j q v _ _ h3 => ?_, by rw [hι]; exact (h.rep _ h2).1⟩
      rw [hι]
      have hlt := World.block_lt_of_cell? _ _ h3
      have := (h.rep _ h2).2 hlt
      unfold World.cell? at h3 ⊢
      simp only at h3 ⊢
      rw [this]
      exact h3
  | map es =>
    obtain ⟨ms, ck, h1, hst, h2⟩ := hv
    exact ⟨ms, ck, by rw [hι, hw rfl]; exact h1, hst, EntRep.ext h h2⟩
  | lent =>
    have h1 : c.ι id < c.w.heap.size := hv
    have h2 := hw rfl
    rw [Array.getElem?_eq_getElem h1] at h2
    show c'.ι id < c'.w.heap.size
    rw [hι]
    exact (Array.getElem?_eq_some_iff.1 h2).1
  | gone => trivial

mutual
theorem AVRep.one {c : RepCtx} : ∀ (a : AV) (v : Value), AVRep c a v → v.oneCell' = true
  | .p q, v, hv => by simp only [AVRep] at hv; exact hv.one
  | .tsl es, v, hv => by simp only [AVRep] at hv; exact hv.1.one
  | .nl, v, hv => by simp only [AVRep] at hv; subst hv; rfl
  | .own id ep, v, hv => by simp only [AVRep] at hv; obtain ⟨b, _, h, _⟩ := hv; exact h
  | .ptr id ep i off, v, hv => by simp only [AVRep] at hv; obtain ⟨b, _, h, _⟩ := hv; exact h
  | .mp id, v, hv => by simp only [AVRep] at hv; obtain ⟨b, _, h, _⟩ := hv; exact h
  | .clo fn f k, v, hv => by simp only [AVRep] at hv; obtain ⟨F, K, rfl, _⟩ := hv; rfl
  | .ifc t g cs, v, hv => by
    simp only [AVRep] at hv
    obtain ⟨C, _, h⟩ := hv
    cases g
    · obtain ⟨u, _, rfl⟩ := h; rfl
    · subst h; rfl
  | .fresh _ _ _, v, hv => by simp only [AVRep] at hv
  | .dead, v, hv => by simp only [AVRep] at hv; exact hv
end

theorem AVRepL.length {c : RepCtx} : ∀ {as : List AV} {vs : List Value}, AVRepL c as vs → vs.length = as.length
  | [], vs, h => by simp only [AVRepL] at h; subst h; rfl
  | a :: r, vs, h => by
    simp only [AVRepL] at h
    obtain ⟨v, vs', rfl, _, h2⟩ := h
    simp [AVRepL.length h2]

theorem AVRepL.ones {c : RepCtx} : ∀ {as : List AV} {vs : List Value}, AVRepL c as vs → ∀ v ∈ vs, v.oneCell' = true
  | [], vs, h => by simp only [AVRepL] at h; subst h; simp
  | a :: r, vs, h => by
    simp only [AVRepL] at h
    obtain ⟨v, vs', rfl, h1, h2⟩ := h
    intro u hu
    rcases List.mem_cons.1 hu with rfl | hu
    · exact AVRep.one _ _ h1
    · exact AVRepL.ones h2 u hu

theorem AVRepL.get {c : RepCtx} : ∀ {as : List AV} {vs : List Value} (h : AVRepL c as vs) (i : Nat) (a : AV), as[i]? = some a → ∃ v, vs[i]? = some v ∧ AVRep c a v
  | [], vs, h, i, a, hi => by simp at hi
  | b :: r, vs, h, i, a, hi => by
    simp only [AVRepL] at h
    obtain ⟨v, vs', rfl, h1, h2⟩ := h
    cases i with
    | zero => simp at hi; subst hi; exact ⟨v, by simp, h1⟩
    | succ i => simp at hi; obtain ⟨u, h3, h4⟩ := AVRepL.get h2 i a hi; exact ⟨u, by simpa using h3, h4⟩

theorem AVRepL.append {c : RepCtx} : ∀ {as bs : List AV} {vs us : List Value}, AVRepL c as vs → AVRepL c bs us → AVRepL c (as ++ bs) (vs ++ us)
  | [], bs, vs, us, h, k => by simp only [AVRepL] at h; subst h; exact k
  | a :: r, bs, vs, us, h, k => by
    simp only [AVRepL] at h
    obtain ⟨v, vs', rfl, h1, h2⟩ := h
    simp only [List.cons_append, AVRepL]
    exact ⟨v, _, rfl, h1, AVRepL.append h2 k⟩

theorem AVRepL.take {c : RepCtx} : ∀ {as : List AV} {vs : List Value} (n : Nat), AVRepL c as vs → AVRepL c (as.take n) (vs.take n)
  | [], vs, n, h => by simp only [AVRepL] at h; subst h; simp [AVRepL]
  | a :: r, vs, n, h => by
    simp only [AVRepL] at h
    obtain ⟨v, vs', rfl, h1, h2⟩ := h
    cases n with
    | zero => simp [AVRepL]
    | succ n => simp only [List.take_succ_cons, AVRepL]; exact ⟨v, _, rfl, h1, AVRepL.take n h2⟩

theorem AVRepL.drop {c : RepCtx} : ∀ {as : List AV} {vs : List Value} (n : Nat), AVRepL c as vs → AVRepL c (as.drop n) (vs.drop n)
  | [], vs, n, h => by simp only [AVRepL] at h; subst h; simp [AVRepL]
  | a :: r, vs, n, h => by
    have h' := h
    simp only [AVRepL] at h
    obtain ⟨v, vs', rfl, h1, h2⟩ := h
    cases n with
    | zero => exact h'
    | succ n => simpa using AVRepL.drop n h2

theorem AVRepL.splice {c : RepCtx} {as xs : List AV} {vs us : List Value} (off : Nat) (h : AVRepL c as vs) (k : AVRepL c xs us) : AVRepL c (splice as off xs) (splice vs off us) := by
  unfold Ev.splice
  rw [k.length]
  exact ((h.take off).append k).append (h.drop _)

theorem AVRep.unNl {c : RepCtx} {a : AV} {v : Value} (h : AVRep c a v) : AVRep c (unNl a) v := by
  cases a <;> try exact h
  simp only [AVRep] at h
  subst h
  simp only [Ev.unNl, AVRep]
  exact ⟨.nil _ _, none, rfl⟩
theorem VRep.nlV {c : RepCtx} {x : AVal} {v : Value} (h : VRep c x v) : VRep c (nlV x) v := by
  unfold Ev.nlV
  split
  · obtain ⟨u, us, h1, h2, h3⟩ := h
    exact ⟨u, us, h1, h2.unNl, h3⟩
  · exact h

end Go.Proofs.YtggofahhehkbbaaGreatDoor.Ev
