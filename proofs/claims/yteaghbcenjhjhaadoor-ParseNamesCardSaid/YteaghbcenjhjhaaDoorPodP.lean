/- Calls of functions that are handed rows: the caller's rows under the callee's numbers, and back. -/
import Derived.Test.YteaghbcenjhjhaaDoorPodE
namespace Go.Pod
open Go

def D.ren (τ : Nat → Nat) : D → D
  | .ptr q p => .ptr (τ q) p
  | .own q => .own (τ q)
  | .view q lo m sz => .view (τ q) lo m sz
  | .cons a b => .cons (a.ren τ) (b.ren τ)
  | .arr n sz g => .arr n sz fun i => (g i).ren τ
  | .lit n sz g => .lit n sz fun i => (g i).ren τ
  | .lptr d => .lptr (d.ren τ)
  | .fn f c => .fn f (c.ren τ)
  | .tup d => .tup (d.ren τ)
  | .gd b d => .gd b (d.ren τ)
  | .ifc t d => .ifc t (d.ren τ)
  | .nn d => .nn (d.ren τ)
  | .bool b => .bool b
  | .int k n => .int k n
  | .str s => .str s
  | .ints k n g => .ints k n g
  | .nil => .nil
  | .nilp => .nilp
  | .nils => .nils
  | .nilf => .nilf
  | .z0 => .z0
  | .is p => .is p
  | .err b => .err b
  | .junk => .junk

theorem ren_size (τ : Nat → Nat) (d : D) : (d.ren τ).size = d.size := by
  induction d with
  | cons a b iha ihb => simp only [D.ren, D.size, iha, ihb]
  | _ => rfl

theorem ren_id (d : D) : d.ren (fun r => r) = d := by
  induction d with
  | cons a b iha ihb => simp only [D.ren, iha, ihb]
  | arr n sz g ih => simp only [D.ren, ih]
  | lit n sz g ih => simp only [D.ren, ih]
  | lptr d ih => simp only [D.ren, ih]
  | fn f d ih => simp only [D.ren, ih]
  | tup d ih => simp only [D.ren, ih]
  | gd b d ih => simp only [D.ren, ih]
  | ifc t d ih => simp only [D.ren, ih]
  | nn d ih => simp only [D.ren, ih]
  | _ => rfl

theorem leaf_le2 {p q : Value → Prop} (h : ∀ v, v.oneCell' = true → p v → q v) : (leaf p).le (leaf q) :=
  ⟨fun _ hp => ⟨h _ hp.2 hp.1, hp.2⟩, fun _ _ ⟨u, h1, h2, h3⟩ => ⟨u, h1, h _ h3 h2, h3⟩, fun _ _ h => h.elim⟩

/-- One tree under two namings of the rows. -/
theorem VR_ren {S : Nat → Prop} {x y : Cx} {σ τ : Nat → Nat} (hw : y.w = x.w) (hav : ∀ b, y.av b → x.av b) (hρ : ∀ r, S r → x.ρ (σ r) = none ∨ y.ρ (τ r) = some none ∨ y.ρ (τ r) = x.ρ (σ r)) :
    ∀ (d : D), d.In S → (VR x (d.ren σ)).le (VR y (d.ren τ)) := by
  have hat : ∀ r, S r → ∀ o, x.ρ (σ r) = some o → y.ρ (τ r) = some none ∨ y.ρ (τ r) = some o := fun r hr o e => by
    rcases hρ r hr with h | h | h
    · rw [h] at e; cases e
    · exact .inl h
    · exact .inr (h.trans e)
  intro d
  induction d with
  | bool b => exact fun _ => leaf_le fun _ h => h
  | int k n => exact fun _ => leaf_le fun _ h => h
  | str s => exact fun _ => leaf_le fun _ h => h
  | ints k n g => exact fun _ => aggr_le (fun _ _ h => h) fun _ _ h => h
  | nil => exact fun _ => aggr_le (fun _ _ h => h) fun _ _ h => h
  | nilp => exact fun _ => leaf_le fun _ h => h
  | nils => exact fun _ => leaf_le fun _ h => h
  | nilf => exact fun _ => leaf_le fun _ h => h
  | z0 => exact fun _ => leaf_le fun _ h => h
  | is p => exact fun _ => leaf_le fun _ h => h
  | err b => exact fun _ => leaf_le fun _ h => h
  | junk => exact fun _ => only_le fun _ h => h
  | cons a b iha ihb =>
    intro hS
    have ha := iha hS.1
    have hb := ihb hS.2
    have hm : ∀ L o, (VR x (D.cons (a.ren σ) (b.ren σ))).m L o → (VR y (D.cons (a.ren τ) (b.ren τ))).m L o := fun L o hm => ⟨ha.m L o hm.1, by
      have := hb.m L _ hm.2
      rw [ren_size] at this ⊢
      exact this⟩
    refine ⟨fun v ⟨cs, h1, h2, h3⟩ => ⟨cs, h1, by simp only [ren_size] at h2 ⊢; exact h2, hm _ _ h3⟩, hm, fun cs i hc => ⟨let ⟨u, h1, h2⟩ := hc.1; ⟨u, h1, ha.v u h2⟩, hb.c cs _ hc.2⟩⟩
  | arr n sz g ih =>
    exact fun hS => aggr_le (fun L o hm i hi => ⟨by rw [ren_size]; have := (hm i hi).1; rwa [ren_size] at this, (ih i (hS i hi)).m L _ (hm i hi).2⟩) (fun _ _ h => h)
  | ptr r p =>
    intro hS
    refine leaf_le fun v ⟨o, ho, hv⟩ => ?_
    rcases hat r hS o ho with h' | h'
    · exact ⟨none, h', fun u e => by cases e⟩
    · exact ⟨o, h', hv⟩
  | lptr d ih =>
    intro hS
    refine leaf_le fun v ⟨b, o, h1, h2, h3, h4⟩ => ⟨b, o, h1, fun hb => h2 (hav b hb), by rw [hw]; exact h3, by rw [hw]; exact (ih hS).m _ _ h4⟩
  | own r =>
    intro hS
    refine leaf_le fun v ⟨o, ho, hv⟩ => ?_
    rcases hat r hS o ho with h' | h'
    · exact ⟨none, h', fun u e => by cases e⟩
    · exact ⟨o, h', hv⟩
  | lit n sz g ih =>
    intro hS
    refine leaf_le fun v hv => hv.imp id fun ⟨b, o, cap, h1, h2, h2', h3, h4, h5⟩ => ⟨b, o, cap, h1, h2, h2', fun hb => h3 (hav b hb), by rw [hw]; exact h4, fun i hi => ⟨by rw [ren_size]; have := (h5 i hi).1; rwa [ren_size] at this, by
      rw [hw]; exact (ih i (hS i hi)).m _ _ (h5 i hi).2⟩⟩
  | fn f c ih => exact fun hS => leaf_le fun v ⟨cs, h1, h2⟩ => ⟨cs, h1, (ih hS).c _ _ h2⟩
  | ifc t d ih => exact fun hS => leaf_le fun v ⟨u, h1, h2⟩ => ⟨u, h1, (ih hS).v _ h2⟩
  | nn d ih => exact fun hS => leaf_le fun v ⟨h1, h2⟩ => ⟨(ih hS).v _ h1, h2⟩
  | view r lo m sz =>
    intro hS
    refine leaf_le fun v ⟨o, ho, hv⟩ => ?_
    rcases hat r hS o ho with h' | h'
    · exact ⟨none, h', fun u e => by cases e⟩
    · exact ⟨o, h', hv⟩
  | tup d ih => exact fun hS => only_le fun v ⟨cs, h1, h2⟩ => ⟨cs, h1, (ih hS).c _ _ h2⟩
  | gd b d ih => exact fun hS => only_le fun v hv => ⟨fun hb => (ih hS).v _ (hv.1 hb), hv.2⟩

def Row.ren (τ : Nat → Nat) : Row → Row
  | .box d => .box (d.ren τ)
  | .seq e n sz d => .seq e n sz (d.ren τ)

theorem RowR_ren {S : Nat → Prop} {x y : Cx} {σ τ : Nat → Nat} (hw : y.w = x.w) (hav : ∀ b, y.av b → x.av b) (hρ : ∀ r, S r → x.ρ (σ r) = none ∨ y.ρ (τ r) = some none ∨ y.ρ (τ r) = x.ρ (σ r)) {u : Value} {row : Row} (hS : row.d.In S)
    (h : RowR x u (row.ren σ)) : RowR y u (row.ren τ) := by
  have hd := VR_ren hw hav hρ row.d hS
  cases row with
  | box d =>
    obtain ⟨b, cs, e, h1, h2, h3, h4⟩ := h
    exact ⟨b, cs, e, h1, hw ▸ h2, by rw [ren_size] at h3 ⊢; exact h3, hd.m _ _ h4⟩
  | seq e n sz d =>
    refine ⟨by rw [ren_size]; have := h.1; rwa [ren_size] at this, h.2.imp (fun ⟨h1, h2, h3⟩ => ⟨h1, h2, hd.m _ _ h3⟩) ?_⟩
    rintro ⟨b, cap, cur, h1, h2, h3, h4, h5, h6⟩
    exact ⟨b, cap, cur, h1, hw ▸ h2, h3, h4, h5, hd.m _ _ h6⟩

theorem Row.ren_id (row : Row) : row.ren (fun r => r) = row := by cases row <;> simp only [Row.ren, Pod.ren_id]

/-! ### The callee's rows, in the caller's -/

/-- The number that the callee's row 'i' has in the caller. -/
def emb (σ : List Nat) (n i : Nat) : Nat := if i < σ.length then σ.getD i 0 else n + (i - σ.length)

def overw (τ : Nat → Nat) : List Nat → Heap → Heap → Heap
  | [], _, h => h
  | _, [], h => h
  | r :: σ, q :: hc, h => overw τ σ hc (h.set r (q.map (Row.ren τ)))

def callH (τ : Nat → Nat) (σ : List Nat) (h hc : Heap) : Heap := overw τ σ hc h ++ (hc.drop σ.length).map (Option.map (Row.ren τ))

theorem overw_len (τ : Nat → Nat) : ∀ (σ : List Nat) (hc h : Heap), (overw τ σ hc h).length = h.length
  | [], hc, h => by cases hc <;> rfl
  | _ :: _, [], h => rfl
  | r :: σ, q :: hc, h => by simp only [overw]; rw [overw_len τ σ hc]; simp

theorem overw_out (τ : Nat → Nat) : ∀ (σ : List Nat) (hc h : Heap) (r : Nat), r ∉ σ → (overw τ σ hc h)[r]? = h[r]?
  | [], hc, h, r, _ => by cases hc <;> rfl
  | _ :: _, [], h, r, _ => rfl
  | q :: σ, c :: hc, h, r, hr => by
    simp only [List.mem_cons, not_or] at hr
    simp only [overw]
    rw [overw_out τ σ hc _ r hr.2, List.getElem?_set_ne (Ne.symm hr.1)]

theorem overw_in (τ : Nat → Nat) : ∀ (σ : List Nat) (hc h : Heap) (i r : Nat) (q : Option Row), σ.Nodup → (∀ r ∈ σ, r < h.length) → σ[i]? = some r → hc[i]? = some q → (overw τ σ hc h)[r]? = some (q.map (Row.ren τ))
  | [], _, _, i, r, q, _, _, e, _ => by simp at e
  | _ :: _, [], _, i, r, q, _, _, _, e => by simp at e
  | p :: σ, c :: hc, h, 0, r, q, hn, hl, e1, e2 => by
    simp only [List.getElem?_cons_zero, Option.some.injEq] at e1 e2
    subst e1; subst e2
    simp only [overw]
    rw [overw_out τ σ hc _ p (List.nodup_cons.1 hn).1, List.getElem?_set_self (hl p (List.mem_cons_self ..))]
  | p :: σ, c :: hc, h, i + 1, r, q, hn, hl, e1, e2 => by
    simp only [overw]
    exact overw_in τ σ hc _ i r q (List.nodup_cons.1 hn).2 (fun r hr => by rw [List.length_set]; exact hl r (List.mem_cons_of_mem _ hr)) (by simpa using e1) (by simpa using e2)

section
variable {P : Program} {X : Nat → Prop} {ρ : Hnd} {h : Heap} {w : World}

/-- The handles that the callee is given. -/
def subρ (ρ : Hnd) (σ : List Nat) : Hnd := fun i => match σ[i]? with
  | some r => ρ r
  | none => none

/-- The handles behind the call. -/
def backρ (ρ ρ'' : Hnd) (σ : List Nat) (n : Nat) : Hnd := fun r => if r ∈ σ then ρ'' (σ.idxOf r) else if r < n then ρ r else ρ'' (σ.length + (r - n))

theorem backρ_in {ρ ρ'' : Hnd} {σ : List Nat} {n i r : Nat} (hn : σ.Nodup) (h : σ[i]? = some r) : backρ ρ ρ'' σ n r = ρ'' i := by
  have hi := getElem?_lt h
  have hr : r = σ[i] := by rw [List.getElem?_eq_getElem hi] at h; exact (Option.some.inj h).symm
  have hm : r ∈ σ := hr ▸ List.getElem_mem hi
  simp only [backρ, hm, if_true]
  congr 1
  subst hr
  exact hn.idxOf_getElem i hi

theorem backρ_new {ρ ρ'' : Hnd} {σ : List Nat} {n i : Nat} (hlt : ∀ r ∈ σ, r < n) (hi : σ.length ≤ i) : backρ ρ ρ'' σ n (n + (i - σ.length)) = ρ'' i := by
  have hm : n + (i - σ.length) ∉ σ := fun h => by have := hlt _ h; omega
  simp only [backρ, hm, if_false]
  rw [if_neg (by omega)]
  congr 1; omega

theorem backρ_out {ρ ρ'' : Hnd} {σ : List Nat} {n r : Nat} (hm : r ∉ σ) (hr : r < n) : backρ ρ ρ'' σ n r = ρ r := by
  simp only [backρ, hm, if_false, hr, if_true]

theorem backρ_emb {ρ ρ'' : Hnd} {σ : List Nat} {n : Nat} (hn : σ.Nodup) (hlt : ∀ r ∈ σ, r < n) (i : Nat) : backρ ρ ρ'' σ n (emb σ n i) = ρ'' i := by
  unfold emb
  split
  · rename_i hi
    refine backρ_in hn ?_
    rw [List.getD_eq_getElem?_getD, List.getElem?_eq_getElem hi]; rfl
  · exact backρ_new hlt (by omega)

theorem emb_lt {σ : List Nat} {n i r : Nat} (h : σ[i]? = some r) : emb σ n i = r := by
  have hi := getElem?_lt h
  simp only [emb, hi, if_true, List.getD_eq_getElem?_getD, h, Option.getD_some]

/-- Each row behind the call: the callee's, or one that it was not given. -/
theorem back_cases {σ : List Nat} {n r : Nat} : (∃ i : Nat, σ[i]? = some r) ∨ (r ∉ σ ∧ r < n) ∨ (r ∉ σ ∧ n ≤ r ∧ r = n + (σ.length + (r - n) - σ.length)) := by
  by_cases hm : r ∈ σ
  · obtain ⟨i, hi, e⟩ := List.mem_iff_getElem.1 hm
    exact .inl ⟨i, by rw [List.getElem?_eq_getElem hi, e]⟩
  · rcases Nat.lt_or_ge r n with h | h
    · exact .inr (.inl ⟨hm, h⟩)
    · exact .inr (.inr ⟨hm, h, by omega⟩)

/-- THE LAW of calls with rows. -/
theorem call_rows (hh : HRel X ρ h w) {fid : FuncId} {as : List D} {σ : List Nat} {hc hc' : Heap} {dc : D} {τ : Nat → Nat} (hτ : ∀ i, i < hc'.length → τ i = emb σ h.length i) (hf : FC P fid as hc dc hc') (hlen : hc.length = σ.length) (hlen' : σ.length ≤ hc'.length) (hnd : σ.Nodup) (hlt : ∀ r ∈ σ, r < h.length)
    (hrows : ∀ (i r : Nat), σ[i]? = some r → h[r]? = (hc[i]?).map (Option.map (Row.ren τ))) (hin : HIn (Bel σ.length) hc) (hain : ∀ a ∈ as, a.In (Bel σ.length)) (hin' : HIn (Bel hc'.length) hc') (hdin : dc.In (Bel hc'.length))
    {vs : Array Value} (hv : VRs (cx X ρ w) (as.map (D.ren τ)) vs) :
    Calls P fid vs w fun e w' => ∃ v, e = .returned v ∧ ∃ ρ', Step Full ρ w ρ' w' ∧ HRel X ρ' (callH τ σ h hc') w' ∧ (VR (cx X ρ' w') (dc.ren τ)).v v := by
  let ρc := subρ ρ σ
  have hρc : ∀ (i r : Nat), σ[i]? = some r → ρc i = ρ r := fun i r e => by simp only [ρc, subρ, e]
  have hρn : ∀ i, σ.length ≤ i → ρc i = none := fun i hi => by simp only [ρc, subρ, List.getElem?_eq_none hi]
  have atσ : ∀ (i : Nat), i < σ.length → ∃ r, σ[i]? = some r := fun i hi => ⟨_, List.getElem?_eq_getElem hi⟩
  have ownc : ∀ b, own ρc b → ∃ (i r : Nat) (u : Value), σ[i]? = some r ∧ ρ r = some (some u) ∧ blkOf u = some b := fun b ⟨i, u, h1, h2⟩ => by
    rcases Nat.lt_or_ge i σ.length with hi | hi
    · obtain ⟨r, hr⟩ := atσ i hi
      exact ⟨i, r, u, hr, (hρc i r hr) ▸ h1, h2⟩
    · rw [hρn i hi] at h1; cases h1
  let others : Nat → Prop := fun b => ∃ r u, r ∉ σ ∧ ρ r = some (some u) ∧ blkOf u = some b
  have oth_not : ∀ b, others b → ¬ own ρc b := fun b ⟨r, u, h1, h2, h3⟩ ho => by
    obtain ⟨i, r', u', k1, k2, k3⟩ := ownc b ho
    have := hh.inj r r' u u' b h2 k2 h3 k3
    subst this
    exact h1 (List.mem_of_getElem? k1)
  have own_cases : ∀ b, own ρ b → own ρc b ∨ others b := fun b ⟨r, u, h1, h2⟩ => by
    by_cases hm : r ∈ σ
    · obtain ⟨i, hi, e⟩ := List.mem_iff_getElem.1 hm
      exact .inl ⟨i, u, by rw [hρc i r (by rw [List.getElem?_eq_getElem hi, e])]; exact h1, h2⟩
    · exact .inr ⟨r, u, hm, h1, h2⟩
  have oth_own : ∀ b, others b → own ρ b := fun b ⟨r, u, _, h2, h3⟩ => ⟨r, u, h2, h3⟩
  have ownc_own : ∀ b, own ρc b → own ρ b := fun b ho => let ⟨_, r, u, _, k2, k3⟩ := ownc b ho; ⟨r, u, k2, k3⟩
  let Xc : Nat → Prop := fun b => X b ∨ others b
  have hemb : ∀ (i r : Nat), σ[i]? = some r → emb σ h.length i = r := fun i r e => emb_lt e
  have htau : ∀ (i r : Nat), σ[i]? = some r → τ i = r := fun i r e => (hτ i (Nat.lt_of_lt_of_le (getElem?_lt e) hlen')).trans (emb_lt e)
  -- what the callee sees
  have down : ∀ r, Bel σ.length r → (cx X ρ w).ρ (τ r) = none ∨ (cx Xc ρc w).ρ r = some none ∨ (cx Xc ρc w).ρ r = (cx X ρ w).ρ (τ r) := fun i hi => by
    obtain ⟨r, hr⟩ := atσ i hi
    refine .inr (.inr ?_)
    show ρc i = ρ (τ i)
    rw [htau i r hr, hρc i r hr]
  have avdown : ∀ b, (cx Xc ρc w).av b → (cx X ρ w).av b := fun b hb => by
    rcases hb with (hb | hb) | hb
    · exact .inl hb
    · exact .inr (oth_own b hb)
    · exact .inr (ownc_own b hb)
  have hc0 : HRel Xc ρc hc w := {
    live := fun i row e => by
      have hi : i < σ.length := hlen ▸ getElem?_lt e
      obtain ⟨r, hr⟩ := atσ i hi
      have h1 := hrows i r hr
      rw [e] at h1
      obtain ⟨u, k1, k2⟩ := hh.live r _ h1
      refine ⟨u, by rw [hρc i r hr]; exact k1, ?_⟩
      have := RowR_ren (x := cx X ρ w) (y := cx Xc ρc w) (τ := fun r => r) rfl avdown down (hin.at i row e) k2
      rwa [Row.ren_id] at this
    dead := fun i e => by
      have hi : i < σ.length := hlen ▸ getElem?_lt e
      obtain ⟨r, hr⟩ := atσ i hi
      have h1 := hrows i r hr
      rw [e] at h1
      rw [hρc i r hr]
      exact hh.dead r h1
    past := fun i e => hρn i (hlen ▸ List.getElem?_eq_none_iff.1 e)
    inj := fun i j u u' b h1 h2 h3 h4 => by
      have key : ∀ (i : Nat) (u : Value), ρc i = some (some u) → ∃ r, σ[i]? = some r ∧ ρ r = some (some u) := fun i u e => by
        rcases Nat.lt_or_ge i σ.length with hi | hi
        · obtain ⟨r, hr⟩ := atσ i hi
          exact ⟨r, hr, (hρc i r hr) ▸ e⟩
        · rw [hρn i hi] at e; cases e
      obtain ⟨r, k1, k2⟩ := key i u h1
      obtain ⟨r', k1', k2'⟩ := key j u' h2
      have hrr := hh.inj r r' u u' b k2 k2' h3 h4
      subst hrr
      have hi := getElem?_lt k1
      have hj := getElem?_lt k1'
      rw [List.getElem?_eq_getElem hi] at k1
      rw [List.getElem?_eq_getElem hj] at k1'
      exact (List.getElem_inj hnd).1 ((Option.some.inj k1).trans (Option.some.inj k1').symm)
    apart := fun b ho hx => hx.elim (hh.apart b (ownc_own b ho)) fun ho' => oth_not b ho' ho
    old := fun b hx => hx.elim (hh.old b) fun ho' => hh.own_lt (oth_own b ho')
    gl := hh.gl.less ownc_own }
  have hvc : VRs (cx Xc ρc w) as vs := by
    refine ⟨by simpa using hv.1, fun i a e => ?_⟩
    have := hv.2 i (a.ren τ) (by simp [e])
    have := (VR_ren (x := cx X ρ w) (y := cx Xc ρc w) (τ := fun r => r) rfl avdown down a (hain a (List.mem_of_getElem? e))).v _ this
    rwa [ren_id] at this
  refine (hf Xc ρc vs w hc0 hvc).mono ?_
  rintro e w' ⟨v, ρ'', rfl, k1, k2, k3⟩
  refine ⟨v, rfl, backρ ρ ρ'' σ h.length, ?_⟩
  have hbin : ∀ (i r : Nat), σ[i]? = some r → backρ ρ ρ'' σ h.length r = ρ'' i := fun i r e => backρ_in hnd e
  have hbemb : ∀ i, backρ ρ ρ'' σ h.length (emb σ h.length i) = ρ'' i := backρ_emb hnd hlt
  have ownb : ∀ b, own (backρ ρ ρ'' σ h.length) b → own ρ'' b ∨ others b := fun b ⟨r, u, h1, h2⟩ => by
    rcases back_cases (σ := σ) (n := h.length) (r := r) with ⟨i, hi⟩ | ⟨hm, hr⟩ | ⟨hm, hr, e⟩
    · rw [hbin i r hi] at h1; exact .inl ⟨i, u, h1, h2⟩
    · rw [backρ_out hm hr] at h1; exact .inr ⟨r, u, hm, h1, h2⟩
    · rw [e, backρ_new hlt (by omega)] at h1; exact .inl ⟨_, u, h1, h2⟩
  have own_b : ∀ b, own ρ'' b → own (backρ ρ ρ'' σ h.length) b := fun b ⟨i, u, h1, h2⟩ => ⟨emb σ h.length i, u, (hbemb i).trans h1, h2⟩
  have oth_b : ∀ b, others b → own (backρ ρ ρ'' σ h.length) b := fun b ⟨r, u, h1, h2, h3⟩ => by
    have hr : r < h.length := by
      rcases Nat.lt_or_ge r h.length with h' | h'
      · exact h'
      · rw [hh.past r (List.getElem?_eq_none h')] at h2; cases h2
    exact ⟨r, u, by rw [backρ_out h1 hr]; exact h2, h3⟩
  have st : Step Full ρ w (backρ ρ ρ'' σ h.length) w' := {
    os := k2.os, tape := k2.tape, output := k2.output, drawn := k2.drawn, size := k2.size
    block := fun b hb hno => k2.block b hb fun ho => hno (ownc_own b ho)
    rho := fun r _ => by
      rcases back_cases (σ := σ) (n := h.length) (r := r) with ⟨i, hi⟩ | ⟨hm, hr⟩ | ⟨hm, hr, e⟩
      · rw [hbin i r hi, ← hρc i r hi]
        exact k2.rho i (by show i < hc.length; rw [hlen]; exact getElem?_lt hi)
      · exact .inr (.inr (backρ_out hm hr))
      · exact .inl (hh.past r (List.getElem?_eq_none hr))
    owns := fun b ho => (ownb b ho).elim (fun h1 => (k2.owns b h1).imp (ownc_own b) id) fun h1 => .inl (oth_own b h1) }
  have up : ∀ i, Bel hc'.length i → (cx Xc ρ'' w').ρ i = none ∨ (cx X (backρ ρ ρ'' σ h.length) w').ρ (τ i) = some none ∨ (cx X (backρ ρ ρ'' σ h.length) w').ρ (τ i) = (cx Xc ρ'' w').ρ i := fun i hi => .inr (.inr (by rw [hτ i hi]; exact hbemb i))
  have avup : ∀ b, (cx X (backρ ρ ρ'' σ h.length) w').av b → (cx Xc ρ'' w').av b := fun b hb => by
    rcases hb with hb | hb
    · exact .inl (.inl hb)
    · exact (ownb b hb).elim .inr fun h1 => .inl (.inr h1)
  have hget : ∀ (i r : Nat), σ[i]? = some r → (callH τ σ h hc')[r]? = (hc'[i]?).map (Option.map (Row.ren τ)) := fun i r hi => by
    have hr := hlt r (List.mem_of_getElem? hi)
    have hi' : i < hc'.length := Nat.lt_of_lt_of_le (getElem?_lt hi) hlen'
    unfold callH
    rw [List.getElem?_append_left (by rw [overw_len]; exact hr), overw_in _ σ hc' h i r _ hnd hlt hi (List.getElem?_eq_getElem hi'), List.getElem?_eq_getElem hi']
    rfl
  have hget2 : ∀ r : Nat, r ∉ σ → r < h.length → (callH τ σ h hc')[r]? = h[r]? := fun r hm hr => by
    unfold callH
    rw [List.getElem?_append_left (by rw [overw_len]; exact hr), overw_out _ σ hc' h r hm]
  have hget3 : ∀ r : Nat, h.length ≤ r → (callH τ σ h hc')[r]? = (hc'[σ.length + (r - h.length)]?).map (Option.map (Row.ren τ)) := fun r hr => by
    unfold callH
    rw [List.getElem?_append_right (by rw [overw_len]; exact hr), overw_len, List.getElem?_map, List.getElem?_drop]
  have toRow : ∀ (i : Nat) (row : Row), hc'[i]? = some (some row) → ∃ u, ρ'' i = some (some u) ∧ RowR (cx X (backρ ρ ρ'' σ h.length) w') u (row.ren τ) := fun i row e => by
    obtain ⟨u, q1, q2⟩ := k1.live i row e
    refine ⟨u, q1, RowR_ren (x := cx Xc ρ'' w') (y := cx X (backρ ρ ρ'' σ h.length) w') (σ := fun r => r) rfl avup up (hin'.at i row e) ?_⟩
    rwa [Row.ren_id]
  refine ⟨st, ?_, ?_⟩
  · exact {
      live := fun r row e => by
        rcases back_cases (σ := σ) (n := h.length) (r := r) with ⟨i, hi⟩ | ⟨hm, hr⟩ | ⟨hm, hr, er⟩
        · rw [hget i r hi] at e
          simp only [Option.map_eq_some_iff] at e
          obtain ⟨q, e1, row0, rfl, rfl⟩ := e
          obtain ⟨u, q1, q2⟩ := toRow i row0 e1
          exact ⟨u, (hbin i r hi).trans q1, q2⟩
        · rw [hget2 r hm hr] at e
          obtain ⟨u, q1, q2⟩ := hh.live r row e
          refine ⟨u, (backρ_out hm hr).trans q1, RowR_to st.leF (fun b hb => ?_) q2⟩
          exact k2.block b (RowR_lt q2 hb) (oth_not b ⟨r, u, hm, q1, hb⟩)
        · rw [hget3 r hr] at e
          simp only [Option.map_eq_some_iff] at e
          obtain ⟨q, e1, row0, rfl, rfl⟩ := e
          obtain ⟨u, q1, q2⟩ := toRow _ row0 e1
          refine ⟨u, ?_, q2⟩
          rw [er, backρ_new hlt (by omega)]; exact q1
      dead := fun r e => by
        rcases back_cases (σ := σ) (n := h.length) (r := r) with ⟨i, hi⟩ | ⟨hm, hr⟩ | ⟨hm, hr, er⟩
        · rw [hget i r hi] at e
          simp only [Option.map_eq_some_iff] at e
          obtain ⟨q, e1, e2⟩ := e
          have : q = none := by
            cases q with
            | none => rfl
            | some _ => cases e2
          subst this
          rw [hbin i r hi]; exact k1.dead i e1
        · rw [hget2 r hm hr] at e
          rw [backρ_out hm hr]; exact hh.dead r e
        · rw [hget3 r hr] at e
          simp only [Option.map_eq_some_iff] at e
          obtain ⟨q, e1, e2⟩ := e
          have : q = none := by
            cases q with
            | none => rfl
            | some _ => cases e2
          subst this
          rw [er, backρ_new hlt (by omega)]; exact k1.dead _ e1
      past := fun r e => by
        rcases back_cases (σ := σ) (n := h.length) (r := r) with ⟨i, hi⟩ | ⟨hm, hr⟩ | ⟨hm, hr, er⟩
        · rw [hget i r hi] at e
          rw [hbin i r hi]; exact k1.past i (by simpa using e)
        · rw [hget2 r hm hr] at e
          rw [List.getElem?_eq_getElem hr] at e; cases e
        · rw [hget3 r hr] at e
          rw [er, backρ_new hlt (by omega)]; exact k1.past _ (by simpa using e)
      inj := fun r r' u u' b h1 h2 h3 h4 => by
        have key : ∀ r u, backρ ρ ρ'' σ h.length r = some (some u) → (∃ i, r = emb σ h.length i ∧ ρ'' i = some (some u)) ∨ (r ∉ σ ∧ ρ r = some (some u)) := fun r u e => by
          rcases back_cases (σ := σ) (n := h.length) (r := r) with ⟨i, hi⟩ | ⟨hm, hr⟩ | ⟨hm, hr, er⟩
          · rw [hbin i r hi] at e; exact .inl ⟨i, (hemb i r hi).symm, e⟩
          · rw [backρ_out hm hr] at e; exact .inr ⟨hm, e⟩
          · rw [er, backρ_new hlt (by omega)] at e
            refine .inl ⟨_, ?_, e⟩
            unfold emb
            rw [if_neg (by omega)]; omega
        have clash : ∀ r u i u' b, r ∉ σ → ρ r = some (some u) → blkOf u = some b → ρ'' i = some (some u') → blkOf u' = some b → False := fun r u i u' b hm e1 e2 e3 e4 => by
          have ho : others b := ⟨r, u, hm, e1, e2⟩
          rcases k2.owns b ⟨i, u', e3, e4⟩ with h' | h'
          · exact oth_not b ho h'
          · have := hh.own_lt (oth_own b ho); omega
        rcases key r u h1 with ⟨i, rfl, q1⟩ | ⟨m1, q1⟩ <;> rcases key r' u' h2 with ⟨j, rfl, q2⟩ | ⟨m2, q2⟩
        · rw [k1.inj i j u u' b q1 q2 h3 h4]
        · exact (clash _ _ _ _ b m2 q2 h4 q1 h3).elim
        · exact (clash _ _ _ _ b m1 q1 h3 q2 h4).elim
        · exact hh.inj r r' u u' b q1 q2 h3 h4
      apart := fun b ho hx => (ownb b ho).elim (fun h1 => k1.apart b h1 (.inl hx)) fun h1 => hh.apart b (oth_own b h1) hx
      old := fun b hx => Nat.lt_of_lt_of_le (hh.old b hx) st.size
      gl := hh.gl.step st }
  · have := (VR_ren (x := cx Xc ρ'' w') (y := cx X (backρ ρ ρ'' σ h.length) w') (σ := fun r => r) rfl avup up dc hdin).v v
    rw [ren_id] at this
    exact this k3
end

end Go.Pod
