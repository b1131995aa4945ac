/- From a contract to the given row: what a call with no rows leaves of the world. -/
import Derived.Test.YteaghbcenjhjhaaDoorPodK
import Derived.ProofKit
import Derived.ChangeSame
namespace Go.Pod
open Go

theorem kept_of_step {S : Nat → Prop} {ρ' : Hnd} {w w' : World} (h : Step S (fun _ => none) w ρ' w') : w.keptBut w' (fun _ => False) := by
  have hno : ∀ b, ¬ own (fun _ => none : Hnd) b := fun b ⟨_, _, e, _⟩ => by cases e
  refine ⟨h.os, h.output, fun i hi => ?_⟩
  rw [h.block i hi (hno i), Array.getElem?_eq_getElem hi]
  cases w.heap[i] <;> first | rfl | exact ⟨rfl, rfl, rfl, fun _ _ => rfl⟩ | exact .inr ⟨rfl, rfl⟩

theorem below_of_step {S : Nat → Prop} {ρ' : Hnd} {w w' : World} (h : Step S (fun _ => none) w ρ' w') : RowKit.Below w.heap.size w w' :=
  ⟨h.os, h.tape, h.output, h.size, fun b hb => h.block b hb fun ⟨_, _, e, _⟩ => by cases e⟩

/-- All arguments read behind a call as they read before. -/
theorem trodAll_stays {H : Type} {enc : TypeId × Value → H} {P : Program} (hl : laidOutB P = true) {W W' : World} (hb : RowKit.Below W.heap.size W W') {sp : Nat → Bool} : ∀ {ts : List TypeId} {vs : List Value} {ds : List (DataW H)} {ps : List MemPlace},
    ts.all (fun t => P.readableRec t && decide (t < P.types.size)) = true → DataW.TrodAll enc P W 0 (fun _ => true) true ts vs ds ps → (∀ x ∈ ps, x.block < W.heap.size) → (∀ x ∈ ps, sp x.block = true) → DataW.TrodAll enc P W' 0 sp true ts vs ds ps
  | [], [], [], _, _, h, _, _ => h
  | [], [], _ :: _, _, _, h, _, _ => h.elim
  | [], _ :: _, _, _, _, h, _, _ => h.elim
  | _ :: _, [], _, _, _, h, _, _ => h.elim
  | _ :: _, _ :: _, [], _, _, h, _, _ => h.elim
  | t :: ts, v :: vs, d :: ds, _, ht, ⟨p, q, h1, h2, e⟩, hlt, hs => by
    subst e
    simp only [List.all_cons, Bool.and_eq_true, decide_eq_true_eq] at ht
    exact ⟨p, q, WideElems.Trod_stays hl ht.1.1 ht.1.2 h1 (fun x hx => hb.same (hlt x (List.mem_append_left _ hx))) (fun x hx => hs x (List.mem_append_left _ hx)),
      trodAll_stays hl hb ht.2 h2 (fun x hx => hlt x (List.mem_append_right _ hx)) (fun x hx => hs x (List.mem_append_right _ hx)), rfl⟩

/-- A contract over no rows, at values that read as told, in any world. -/
theorem calls_of_fc {P : Program} {f : FuncId} {args : List D} {d : D} {v : Value} (h : FC P f args [] d []) (hd : det d = some v) (w : World) (X : Nat → Prop) (hX : ∀ b, X b → b < w.heap.size) {vs : Array Value} (hv : VRs (cx X (fun _ => none) w) args vs) (hG : ∀ q, q ∈ Glob → ∃ cs e fz, w.heap[q.1]? = some (.cells cs e fz) ∧ q.2 cs := by exact fun _ h => absurd h List.not_mem_nil) :
    Calls P f vs w fun e w' => e = .returned v ∧ w.keptBut w' (fun _ => False) ∧ RowKit.Below w.heap.size w w' := by
  refine (h X (fun _ => none) vs w { live := fun r row e => (by simp at e), dead := fun r e => (by simp at e), past := fun _ _ => rfl, inj := fun r r' u u' b e => (by cases e), apart := fun b ⟨_, _, e, _⟩ => (by cases e), old := hX, gl := fun q hq => ⟨fun ⟨_, _, e, _⟩ => (by cases e), hG q hq⟩ } hv).mono ?_
  rintro e w' ⟨u, ρ', rfl, _, st, hu⟩
  exact ⟨by rw [(det_spec hd u).1 hu], kept_of_step st, below_of_step st⟩

theorem mapM_len {α β : Type} {f : α → Option β} : ∀ {l : List α} {r : List β}, l.mapM f = some r → r.length = l.length
  | [], r, h => by simp at h; subst h; rfl
  | a :: l, r, h => by
    simp only [List.mapM_cons, Option.bind_eq_bind, Option.bind_eq_some_iff, Option.pure_def, Option.some.injEq] at h
    obtain ⟨b, _, s, h2, rfl⟩ := h
    simp [mapM_len h2]

/-- An argument that is an array of whole numbers. -/
theorem open_ints {H : Type} {enc : TypeId × Value → H} {P : Program} {w : World} {base b0 n : Nat} {sp : Nat → Bool} {held : Bool} {r : Reach} {t e : TypeId} {k : IntKind} {v : Value} {d : DataW H} {ps : List MemPlace} (ht : P.underlying t = some (.array n e)) (he : P.underlying e = some (.int k)) (hc : P.cellsOf e = 1) (hn : P.cellsOf t = n)
    (hval : Value.okWide P w r b0 t v) (hd : DataW.Trod enc P w base sp held t v d ps) : ∃ g : Nat → Int, (∀ i, i < n → (Lit.int k (g i)).wf = true) ∧ ∀ x : Cx, (VR x (.ints k n g)).v v := by
  unfold Value.okWide at hval
  rw [ht] at hval
  obtain ⟨cs, rfl, hs, _⟩ := hval
  obtain ⟨fuel, hf⟩ := hd
  cases fuel with
  | zero => cases hf
  | succ fuel =>
    have hlen : cs.toList.length = P.cellsOf t := by simpa using hs
    simp only [Value.cells, DataW.trod, ht, hlen, if_true, Option.map_eq_some_iff] at hf
    obtain ⟨xs, hx, _⟩ := hf
    have key : ∀ i, i < n → ∃ m, cs[i]? = some (.int k m) ∧ (Lit.int k m).wf = true := fun i hi => by
      obtain ⟨y, hy⟩ : ∃ y, DataW.trod enc P w base sp held fuel e ((cs.toList.drop (i * P.cellsOf e)).take (P.cellsOf e)) = some y := by
        have := mapM_get _ _ hx i i (by simp [hi])
        have hl : i < xs.length := by
          have := mapM_len hx
          simp at this; omega
        exact ⟨xs[i], by rw [← this]; exact List.getElem?_eq_getElem hl⟩
      rw [hc, Nat.mul_one] at hy
      have hi' : i < cs.toList.length := by rw [hlen, hn]; exact hi
      rw [List.drop_eq_getElem_cons hi', List.take_succ_cons, List.take_zero] at hy
      obtain ⟨m, h1, _, h3⟩ := DataW.trod_int he hy
      simp only [List.cons.injEq, and_true] at h1
      exact ⟨m, by rw [Array.getElem?_eq_getElem (by simpa using hi'), ← h1]; simp, h3⟩
    refine ⟨fun i => match cs[i]? with | some (.int _ m) => m | _ => 0, fun i hi => ?_, fun x => ⟨cs, rfl, by rw [hs, hn], fun i hi => ?_⟩⟩
    · obtain ⟨m, h1, h2⟩ := key i hi
      simpa [h1] using h2
    · obtain ⟨m, h1, h2⟩ := key i hi
      simp only [Nat.zero_add, h1]

section
open Go.ChangeShapes Go.WideShapes
variable {H : Type} {enc : TypeId × Value → H} {P : Program}
theorem post_of_below {f : Func} {s : ChangeSpec} {apart fresh handsOn again : Bool} {W W' : World} {args : Array Value} {v : Value} {ds gs : List (DataW H)} {before pa pv : List MemPlace}
    (hW : DataW.Whole enc P f.params.toList s.vars apart W args.toList ds gs before)
    (hres : ∀ (b : Nat) (sp : Nat → Bool) (hd : Bool), DataW.TrodAll enc P W' b sp hd f.resultTypes.toList (v.resultList f.resultTypes.size) (s.fn H (ds ++ gs)).results [])
    (hargs : ∀ sp : Nat → Bool, (∀ p ∈ before, sp p.block = true) → DataW.TrodAll enc P W' 0 sp true f.params.toList args.toList (s.fn H (ds ++ gs)).args pa)
    (hvars : ∀ sp : Nat → Bool, (∀ p ∈ before, sp p.block = true) → DataW.TrodVars enc P W' sp s.vars (s.fn H (ds ++ gs)).vars pv)
    (hps : before = pa ++ pv) (hk : W.keptBut W' (fun _ => False)) (hb : RowKit.Below W.heap.size W W')
    (hok : ∀ (j : Nat) (t : TypeId) (r : Value), f.resultTypes[j]? = some t → (v.resultList f.resultTypes.size)[j]? = some r → Value.okWide P W' .any 0 t r) :
    s.post enc P f apart fresh handsOn again W args v W' := by
  have hold : ∀ p ∈ before, (fun b => decide (b < W.heap.size)) p.block = true := fun p hp => by simpa using hW.lt p hp
  have hfz : ∀ a : Addr, a.block < W.heap.size → W'.frozen? a = W.frozen? a := fun a ha => by simp only [World.frozen?, hb.block _ ha]
  refine ⟨ds, gs, before, [], pa, pv, hW, hres _ _ _, hargs _ hold, hvars _ hold, World.keptBut_mono (fun p hp => hp.elim) hk, fun _ => ?_⟩
  have hW0 := hW
  obtain ⟨_, _, _, _, _, hz, hn⟩ := hW
  refine ⟨hok, _, _, ([] ++ pa) ++ pv, ⟨[] ++ pa, pv, trodAll_append (hargs _ (fun _ _ => rfl)) (hres _ _ _), hvars _ (fun _ _ => rfl), rfl, ?_, ?_⟩, ?_⟩
  · intro b off hp
    have hlt : b < W.heap.size := hW0.lt (.cell b off) (by rw [hps]; simpa using hp)
    rw [hfz _ hlt]; exact hz b off (by rw [hps]; simpa using hp)
  · intro ha
    have := hn ha
    rw [hps] at this
    simpa using this
  · intro p hp _
    rw [hps]
    simpa using hp
end

end Go.Pod
