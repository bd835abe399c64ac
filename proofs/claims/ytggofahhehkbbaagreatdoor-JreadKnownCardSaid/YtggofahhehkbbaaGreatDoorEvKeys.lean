/- slices.Sorted(maps.Keys(m)) at keys that are texts. -/
import Derived.Test.YtggofahhehkbbaaGreatDoorEvNew
import Derived.Shelf.SlIter.Nil
import Derived.Shelf.SortM.Plain
import Derived.Shelf.SortM.SortNone
namespace Go.Proofs.YtggofahhehkbbaaGreatDoor.Ev
open Go.Shelf Go.RowKit Go.Maps Go.Sort
set_option autoImplicit false
set_option linter.unusedVariables false
set_option linter.unusedSimpArgs false

theorem IVal.move {d d' : Bd} (hm : Mv d d') {g : Bool} {cs : List AV} {v : Value} {o : List Nat} (ho : ∀ b, b ∈ o → d'.w.heap[b]? = d.w.heap[b]?) (h : IVal d g cs v o) : IVal d' g cs v o := by
  cases g
  · exact IRepL.move hm _ _ _ ho h
  · obtain ⟨C, h1, h2⟩ := h
    exact ⟨C, h1, IRepL.move hm _ _ _ ho h2⟩
theorem IEnts.move {d d' : Bd} (hm : Mv d d') : ∀ {es : List (Value × Bool × List AV)} {ms : List MapEntry} {o : List Nat}, (∀ b, b ∈ o → d'.w.heap[b]? = d.w.heap[b]?) → IEnts d es ms o → IEnts d' es ms o
  | [], ms, o, _, h => h
  | (k, g, cs) :: r, ms, o, ho, h => by
    obtain ⟨m, ms', o1, o2, h1, rfl, h3, h4, h5, h6⟩ := h
    exact ⟨m, ms', o1, o2, h1, rfl, h3, h4, h5.move hm fun b hb => ho b (List.mem_append_left _ hb), IEnts.move hm (fun b hb => ho b (List.mem_append_right _ hb)) h6⟩
theorem IBoxes.move {d d' : Bd} (hm : Mv d d') : ∀ {bs : Boxes} {k : Nat} {o : List Nat}, (∀ j, j < bs.length → d'.w.heap[d.β (k + j)]? = d.w.heap[d.β (k + j)]?) → (∀ b, b ∈ o → d'.w.heap[b]? = d.w.heap[b]?) → IBoxes d k bs o → IBoxes d' k bs o
  | [], k, o, _, _, h => h
  | .box ty cs :: r, k, o, hβ, ho, h => by
    obtain ⟨C, f, o1, o2, h1, h2, rfl, h4, h5⟩ := h
    refine ⟨C, f, o1, o2, ?_, h2, rfl, IRepL.move hm _ _ _ (fun b hb => ho b (List.mem_append_left _ hb)) h4, IBoxes.move hm (fun j hj => ?_) (fun b hb => ho b (List.mem_append_right _ hb)) h5⟩
    · rw [hm.β]; exact (hβ 0 (by simp)).trans h1
    · have := hβ (j + 1) (by simpa using hj)
      rw [show k + 1 + j = k + (j + 1) by omega]
      exact this
  | .map es :: r, k, o, hβ, ho, h => by
    obtain ⟨ms, ck, o1, o2, h1, hst, rfl, h3, h4⟩ := h
    refine ⟨ms, ck, o1, o2, ?_, hst, rfl, h3.move hm fun b hb => ho b (List.mem_append_left _ hb), IBoxes.move hm (fun j hj => ?_) (fun b hb => ho b (List.mem_append_right _ hb)) h4⟩
    · rw [hm.β]; exact (hβ 0 (by simp)).trans h1
    · have := hβ (j + 1) (by simpa using hj)
      rw [show k + 1 + j = k + (j + 1) by omega]
      exact this
  | .arr _ _ _ _ _ :: _, _, _, _, _, h => by simp [IBoxes] at h
  | .lent :: _, _, _, _, _, h => by simp [IBoxes] at h
  | .gone :: _, _, _, _, _, h => by simp [IBoxes] at h

/-- A callee met by a contract that leaves all that lay before as it was: what it answers is pure, or new. -/
theorem fnSound_still {E : Env} {f : Nat} {fn : Func} {c : Code} (hf : E.P.funcs[f]? = some fn) (hb : fn.body = some c) (hn : (fn.name == "runtime.NumGoroutine") = false) {args rs : Args} {bxs : Boxes}
    (h : ∀ (B : Base) (us : List Value) (β : Nat → Nat) (o1 o2 : List Nat), IVals (mkBd B.w0 B.N0 bxs β) args us o1 → IBoxes (mkBd B.w0 B.N0 bxs β) 0 bxs o2 → (∀ b, b ∈ bdBlocks bxs β (o1 ++ o2) → b < B.w0.heap.size ∧ ¬ B.N0 b) → BaseOK B → GlobOK E B →
      Calls E.P f us.toArray B.w0 fun e w' => ∃ vs, e = .returned (retVal vs) ∧ Go.RowKit.Below B.w0.heap.size B.w0 w' ∧ (B.md = true → B.w0.drawn ≤ w'.drawn) ∧ ∀ d' : Bd, d'.w = w' → (∀ b, B.N0 b ∨ (B.w0.heap.size ≤ b ∧ b < w'.heap.size) → d'.N b) → IVals d' rs vs []) :
    FnSound E f args bxs (.ret rs) bxs := by
  intro B β o us hbd hO hB hg
  obtain ⟨o1, o2, rfl, hv, hx⟩ := hbd.vals
  have hc := h B us β o1 o2 hv hx (fun b hb => ⟨hbd.lt b hb, hbd.notN b hb⟩) hB hg
  refine (callOp_of hf hb hn hc).mono fun e w' hr => ?_
  obtain ⟨vs, rfl, hbl, hdr, hvs⟩ := hr
  have hsub : ∀ b, b ∈ bdBlocks bxs β ([] ++ o2) → b ∈ bdBlocks bxs β (o1 ++ o2) := fun b hb => by
    simp only [bdBlocks, List.nil_append, List.mem_append] at hb ⊢
    rcases hb with h | h
    · exact .inl h
    · exact .inr (.inr h)
  have hold : ∀ b, b ∈ bdBlocks bxs β (o1 ++ o2) → w'.heap[b]? = B.w0.heap[b]? := fun b hb => hbl.block b (hbd.lt b hb)
  refine ⟨⟨hbl.os, hbl.tape, hbl.output, hbl.size, fun b hlt _ => hbl.block b hlt, hdr⟩, Nat.le_refl _, β, [] ++ o2, vs, fun k hk => ⟨rfl, rfl⟩, ⟨⟨[], o2, rfl, hvs _ rfl fun b hb => ?_, ?_⟩, ?_, fun b hb => Nat.lt_of_lt_of_le (hbd.lt b (hsub b hb)) hbl.size, fun b hb hN => hN.2.2 hb⟩, fun b hb => .inl ((hO b).2 (hsub b hb)), rfl⟩
  · have hnot : b ∉ bdBlocks bxs β ([] ++ o2) := fun hm => by
      rcases hb with h | h
      · exact hbd.notN b (hsub b hm) h
      · exact Nat.lt_irrefl _ (Nat.lt_of_lt_of_le (hbd.lt b (hsub b hm)) h.1)
    rcases hb with h | h
    · exact ⟨.inl h, Nat.lt_of_lt_of_le (hB.n0 b h).1 hbl.size, hnot⟩
    · exact ⟨.inr (.inr h.1), h.2, hnot⟩
  · refine IBoxes.move (d := mkBd B.w0 B.N0 bxs β) (d' := mkBd w' (fun b => B.A b ∧ b < w'.heap.size ∧ b ∉ bdBlocks bxs β ([] ++ o2)) bxs β) ⟨rfl, rfl, rfl, fun b hb => ⟨⟨.inl hb, Nat.lt_of_lt_of_le (hB.n0 b hb).1 hbl.size, fun hm => hbd.notN b (hsub b hm) hb⟩, fun hlt => hbl.block b hlt⟩⟩ (fun j hj => ?_) (fun b hb => ?_) hx
    · refine hold _ ?_
      simp only [bdBlocks, List.mem_append, List.mem_map, List.mem_range]
      exact .inl ⟨0 + j, by omega, rfl⟩
    · exact hold _ (by simp only [bdBlocks, List.mem_append]; exact .inr (.inr hb))
  · have hnd := hbd.nodup
    refine List.Nodup.sublist ?_ hnd
    simp only [bdBlocks, List.nil_append]
    exact List.Sublist.append (List.Sublist.refl _) (List.sublist_append_right _ _)

/-! ### Keys, sorted -/
def insK (x : List UInt8) : List (List UInt8) → List (List UInt8)
  | [] => [x]
  | y :: r => bif leB x y then x :: y :: r else y :: insK x r
def sortK : List (List UInt8) → List (List UInt8)
  | [] => []
  | x :: r => insK x (sortK r)

theorem insK_perm (x : List UInt8) : ∀ l : List (List UInt8), (insK x l).Perm (x :: l)
  | [] => .refl _
  | y :: r => by
    unfold insK
    cases leB x y
    · exact ((insK_perm x r).cons y).trans (.swap x y r)
    · exact .refl _
theorem sortK_perm : ∀ l : List (List UInt8), (sortK l).Perm l
  | [] => .refl _
  | x :: r => (insK_perm x _).trans ((sortK_perm r).cons x)
theorem insK_sorted (x : List UInt8) : ∀ l : List (List UInt8), l.Pairwise (fun a b => leB a b = true) → (insK x l).Pairwise fun a b => leB a b = true
  | [], _ => by simp [insK]
  | y :: r, h => by
    unfold insK
    cases hxy : leB x y with
    | true =>
      refine List.pairwise_cons.2 ⟨fun z hz => ?_, h⟩
      rcases List.mem_cons.1 hz with rfl | hz
      · exact hxy
      · have := (List.pairwise_cons.1 h).1 z hz
        simp only [leB, decide_eq_true_eq] at *
        exact List.le_trans hxy this
    | false =>
      have hyx : leB y x = true := by
        have := List.le_total x y
        simp only [leB, decide_eq_true_eq, decide_eq_false_iff_not] at *
        exact this.resolve_left hxy
      refine List.pairwise_cons.2 ⟨fun z hz => ?_, insK_sorted x r (List.pairwise_cons.1 h).2⟩
      rcases List.mem_cons.1 ((insK_perm x r).mem_iff.1 hz) with rfl | hz
      · exact hyx
      · exact (List.pairwise_cons.1 h).1 z hz
theorem sortK_sorted : ∀ l : List (List UInt8), (sortK l).Pairwise fun a b => leB a b = true
  | [] => .nil
  | x :: r => insK_sorted x _ (sortK_sorted r)
theorem sortK_eq {l l' : List (List UInt8)} (h : l'.Perm l) : l'.mergeSort (fun x y => decide (x ≤ y)) = sortK l := by
  have tr : ∀ a b c : List UInt8, leB a b = true → leB b c = true → leB a c = true := fun a b c h1 h2 => by simp only [leB, decide_eq_true_eq] at *; exact List.le_trans h1 h2
  have to : ∀ a b : List UInt8, (leB a b || leB b a) = true := fun a b => by simp only [leB, Bool.or_eq_true, decide_eq_true_eq]; exact List.le_total a b
  refine List.Perm.eq_of_pairwise (le := fun a b => leB a b = true) (fun a b _ _ h1 h2 => ?_) (List.pairwise_mergeSort tr to l') (sortK_sorted l) (((List.mergeSort_perm l' leB).trans h).trans (sortK_perm l).symm)
  simp only [leB, decide_eq_true_eq] at h1 h2
  exact List.le_antisymm h1 h2

def keyStr : Value × Bool × List AV → Option (List UInt8)
  | (.string s, _) => bif Nat.ble (lst s).length 1000000 then some (lst s) else none
  | _ => none
def keyStrs : List (Value × Bool × List AV) → Option (List (List UInt8))
  | [] => some []
  | e :: r => match keyStr e, keyStrs r with
    | some k, some ks => some (k :: ks)
    | _, _ => none

/-- slices.Sorted at maps.Keys' iterator. -/
def primSorted (it : Nat) : Args → Boxes → Res := fun a b => match a, b with
  | [(false, [.clo (.func g) [] [.ptr 0 0 0 0]])], [.box ty [.mp 1], .map es] => match keyStrs es with
    | some ks => bif Nat.beq g it && Nat.ble ks.length 1000000 then some (.ret [(false, [.p (.sl ((sortK ks).map fun k => [.lit (.string (mkS k))]))])], [.box ty [.mp 1], .map es]) else none
    | none => none
  | _, _ => none

theorem keyStrs_keys {d : Bd} {P : Program} {k : TypeId} (hk : P.underlying k = some .string) : ∀ {es : List (Value × Bool × List AV)} {ms : List MapEntry} {o : List Nat} {ks : List (List UInt8)}, keyStrs es = some ks → IEnts d es ms o →
    ms.map (Go.WideElems.rd (H := Unit) P k fun _ => some (.nil, [])) = ks.map fun s => some (.string s, .nil)
  | [], ms, o, ks, h, he => by
    obtain ⟨rfl, rfl⟩ := he
    simp only [keyStrs, Option.some.injEq] at h
    subst h
    rfl
  | (v, g, cs) :: es, ms, o, ks, h, he => by
    obtain ⟨m, ms', o1, o2, rfl, rfl, h3, h4, h5, h6⟩ := he
    simp only [keyStrs] at h
    split at h
    case h_2 => simp at h
    case h_1 s ks' h1 h2 =>
      simp only [Option.some.injEq] at h
      subst h
      rw [List.map_cons, List.map_cons, keyStrs_keys hk h2 h6]
      congr 1
      unfold keyStr at h1
      split at h1
      case h_2 => simp at h1
      case h_1 s' _ heq =>
        rw [cond_eq_ite] at h1
        split at h1
        case isFalse => simp at h1
        case isTrue hl =>
          simp only [Option.some.injEq] at h1
          subst h1
          simp only [Prod.mk.injEq] at heq
          obtain ⟨rfl, _⟩ := heq
          have hs : s'.size ≤ maxLen := by
            have : s'.size = (lst s').length := rfl
            rw [this]
            exact Nat.le_trans (Nat.le_of_ble_eq_true hl) (by decide)
          unfold Go.WideElems.rd
          rw [h3, Go.WideMaps.keyOf_string_mk hk hs]
          rfl

theorem rg_of_rd {P : Program} {k : TypeId} : ∀ {ms : List MapEntry} {ks : List (List UInt8)}, ms.map (Go.WideElems.rd (H := Unit) P k fun _ => some (.nil, [])) = ks.map (fun s => some (.string s, .nil)) →
    ms.map (Go.WideElems.rg (H := Unit) P k fun _ => some (.nil, [])) = ks.map fun s => (.string s, .nil)
  | [], [], _ => rfl
  | [], _ :: _, h => by simp at h
  | _ :: _, [], h => by simp at h
  | m :: ms, s :: ks, h => by
    simp only [List.map_cons, List.cons.injEq] at h ⊢
    exact ⟨Go.WideElems.rg_of h.1, rg_of_rd h.2⟩

section
variable {P : Program} {ρK ρS ρM : Ren} {E : Env}

theorem sorted_sound (LK : SlLaysZ.n7 P ρK) (LS : SlLaysZ.n6 P ρS) (LM : SlLaysM.n6 P ρM) (hE : E.P = P) (hmd : E.md = false) {fc it : Nat} (hS6 : ρS.f 6 = fc) (hK10 : ρK.f 10 = it) (hs9 : ρS.f 9 = ρM.f 6)
    (e9 : ∀ args w, (callFunc (ρS.f 9) args).run P w = .ok (.enter (ρS.f 9) args) w) (eit : ∀ args w, (callFunc it args).run P w = .ok (.enter it args) w) (hk : P.underlying (ρK.t 26) = some .string)
    {fn : Func} {c : Code} (hf : P.funcs[fc]? = some fn) (hb : fn.body = some c) (hn : (fn.name == "runtime.NumGoroutine") = false)
    {args : Args} {bxs : Boxes} {out : Out} {bxs' : Boxes} (he : primSorted it args bxs = some (out, bxs')) : FnSound E fc args bxs out bxs' := by
  unfold primSorted at he
  split at he
  case h_2 => simp at he
  case h_1 g ty es =>
    split at he
    case h_2 => simp at he
    case h_1 ks hks =>
      rw [cond_eq_ite] at he
      split at he
      case isFalse => simp at he
      case isTrue hc =>
        simp only [Option.some.injEq, Prod.mk.injEq] at he
        obtain ⟨rfl, rfl⟩ := he
        simp only [Bool.and_eq_true, Nat.ble_eq] at hc
        obtain ⟨hg, hlen⟩ := hc
        obtain rfl := Nat.eq_of_beq_eq_true hg
        refine fnSound_still (by rw [hE]; exact hf) hb hn fun B us β o1 o2 hv hx hlt hB hgl => ?_
        -- what is handed over
        obtain ⟨v0, vs0, o3, o4, rfl, rfl, h0, hv⟩ := ivals_cons hv
        obtain ⟨rfl, rfl⟩ := hv
        obtain ⟨v1, vs1, o5, o6, h1, rfl, h2, h3⟩ := h0
        simp only [List.cons.injEq] at h1
        obtain ⟨rfl, rfl⟩ := h1
        simp only [IRepL] at h3
        obtain ⟨_, rfl⟩ := h3
        simp only [IRep] at h2
        obtain ⟨F, K, o7, o8, rfl, rfl, h4, h5⟩ := h2
        simp only [IRepL] at h4 h5
        obtain ⟨hF, rfl⟩ := h4
        obtain ⟨u, us', o9, o10, hK, rfl, h6, rfl, rfl⟩ := h5
        obtain rfl : F = #[] := Array.toList_inj.1 hF
        obtain rfl : K = #[u] := Array.toList_inj.1 hK
        simp only [IRep] at h6
        obtain ⟨rfl, _, _, _, _, hu⟩ := h6
        have hu := hu rfl
        subst hu
        obtain ⟨C, f, o11, o12, hC, hfz, rfl, hL, hx⟩ := hx
        obtain ⟨ms, ck, o13, o14, hM, hst, rfl, hents, hx⟩ := hx
        obtain rfl := hx
        simp only [IRepL] at hL
        obtain ⟨u, us', o15, o16, hC1, rfl, h7, rfl, rfl⟩ := hL
        obtain rfl : C = #[u] := Array.toList_inj.1 hC1
        simp only [IRep] at h7
        obtain ⟨rfl, _, _, hu⟩ := h7
        have hu := hu rfl
        subst hu
        change B.w0.heap[β 0]? = _ at hC
        change B.w0.heap[β 1]? = _ at hM
        have hrd := keyStrs_keys hk hks hents
        have hrg := rg_of_rd hrd
        have hsz : ms.size = ks.length := by
          have := congrArg List.length hrd
          simpa using this
        have hmax : ks.length ≤ maxLen := Nat.le_trans hlen (by decide)
        have hown : B.w0.ownsMap P (ρK.t 26) (fun _ => some ((.nil : DataW Unit), [])) (β 1) ms.size (.map ((ms.toList.map (Go.WideElems.rg P (ρK.t 26) fun _ => some (.nil, []))).foldr DataW.insert [])) :=
          ⟨ms, ck, hM, ⟨by rw [hsz]; exact hmax, hst, fun x hx => by
            have := List.mem_map_of_mem (f := Go.WideElems.rd (H := Unit) P (ρK.t 26) fun _ => some (.nil, [])) hx
            rw [hrd, List.mem_map] at this
            obtain ⟨s, _, hs⟩ := this
            exact ⟨_, hs.symm⟩⟩, Nat.le_refl _, rfl⟩
        have hlt0 : β 0 < B.w0.heap.size := heap_lt hC
        have hseq := AnyZ.keys_gives (ρ := ρK) { LK with } Fence.wide 2 trivial rfl (by omega) (β 0) (β 1) ms.size _ B.w0 hlt0 (by show World.cell? _ ⟨β 0, 0, none⟩ = _; simp only [World.cell?, hC]; rfl) hown
        have hsize : Maps.size (.map ((ms.toList.map (Go.WideElems.rg (H := Unit) P (ρK.t 26) fun _ => some (.nil, []))).foldr DataW.insert [])) = ks.length := by
          show List.length _ = _
          rw [(Go.WideShapes.sorted_perm _).length_eq, List.length_map, Array.length_toList, hsz]
        have hsorts : AnyZ.SortsIn P ρS Fence.wide (5 - 1) :=
          ⟨fun blk off cap ss W hH hblk hsz => callsIn_wide.2 (by rw [hs9]; exact AnyM.slices_Sort_string LM blk off cap ss W hH hblk hsz),
           fun p cap W => callsIn_wide.2 (by rw [hs9]; exact AnyM.slices_Sort_string_none LM p cap W)⟩
        have cS := AnyZ.sorted_in LS Fence.wide 5 trivial trivial trivial trivial rfl (by omega) hsorts e9 (ρK.f 10) #[.pointer (some ⟨β 0, 0, none⟩)] trivial (by rw [hK10]; exact eit) _ _ (hsize ▸ hmax) (by rw [hsize]; omega) _ hseq
        have cS := callsIn_wide.1 cS
        rw [hS6, hK10] at cS
        rw [hE]
        refine cS.mono fun e w' hr => ?_
        obtain ⟨v, ss, rfl, hperm, hrow, _, hbel⟩ := hr
        have hp2 : ss.Perm ks := by
          refine hperm.trans ?_
          have := (Go.WideShapes.sorted_perm (ms.toList.map (Go.WideElems.rg (H := Unit) P (ρK.t 26) fun _ => some (.nil, [])))).map fun p => strOf p.1
          rw [hrg, List.map_map] at this
          have h8 : ks.map ((fun p : Lit × DataW Unit => strOf p.1) ∘ fun s => (.string s, .nil)) = ks := by
            rw [show ((fun p : Lit × DataW Unit => strOf p.1) ∘ fun s => (Lit.string s, DataW.nil)) = id from rfl, List.map_id]
          rw [h8] at this
          rw [hrg]
          exact this
        rw [sortK_eq hp2] at hrow
        refine ⟨[v], rfl, hbel, fun hm => ?_, fun d' hd' hN' => ivals_one ?_⟩
        · have := hgl.md hm
          rw [hmd] at this
          simp at this
        · obtain ⟨hl, hr⟩ := hrow
          have hl2 : (sortK ks).length = ss.length := by simpa using hl
          rcases hr with ⟨rfl, h0⟩ | ⟨b, cap, cur, rfl, hbase, hcur, hle, hcm, hcs, htk⟩
          · have : sortK ks = [] := List.eq_nil_of_length_eq_zero (by omega)
            rw [this]
            exact .nil _ _
          · have hes : ((sortK ks).map fun k => [PV.lit (.string (mkS k))]).length = ss.length := by rw [List.length_map, hl2]
            rw [← hes]
            rw [hd']
            have hcell : ∀ (i : Nat) (k : List UInt8), (sortK ks)[i]? = some k → cur[i]? = some (Value.string (mkS k)) := fun i k hi => by
              have h9 := congrArg (fun l : List Value => l[i]?) htk
              simp only [List.getElem?_map, hi, Option.map_some, Nat.mul_one, List.getElem?_take] at h9
              rw [if_pos (by rw [← hl2]; exact (List.getElem?_eq_some_iff.1 hi).1), Array.getElem?_toList] at h9
              exact h9
            refine .sl _ b 0 cap 1 (fun i _ => match (sortK ks)[i]? with | some k => Value.string (mkS k) | none => Value.bool false) (hN' b (.inr ⟨hbase, heap_lt hcur⟩)) (by rw [hes]; exact hle) (fun e he => ?_) (fun i e j q h1 h2 => ?_) (fun i e j q h1 h2 => ?_)
            · obtain ⟨k, _, rfl⟩ := List.mem_map.1 he
              rfl
            · rw [List.getElem?_map] at h1
              cases hi : (sortK ks)[i]? with
              | none => rw [hi] at h1; simp at h1
              | some k =>
                rw [hi] at h1
                simp only [Option.map_some, Option.some.injEq] at h1
                subst h1
                have hj : j = 0 := by
                  have := (List.getElem?_eq_some_iff.1 h2).1
                  simpa using this
                subst hj
                simp only [World.cell?, hcur, Nat.zero_add, Nat.mul_one, Nat.add_zero]
                exact hcell i k hi
            · rw [List.getElem?_map] at h1
              cases hi : (sortK ks)[i]? with
              | none => rw [hi] at h1; simp at h1
              | some k =>
                rw [hi] at h1
                simp only [Option.map_some, Option.some.injEq] at h1
                subst h1
                have hj : j = 0 := by
                  have := (List.getElem?_eq_some_iff.1 h2).1
                  simpa using this
                subst hj
                simp only [List.getElem?_cons_zero, Option.some.injEq] at h2
                subst h2
                exact .lit _ rfl
end
end Go.Proofs.YtggofahhehkbbaaGreatDoor.Ev
