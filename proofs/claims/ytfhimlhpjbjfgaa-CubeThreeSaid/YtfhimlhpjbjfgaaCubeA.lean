/- CubeThree, CubeOrder, CubeNear, CubeMakes: the plain laws. -/
import Derived.Test.YtfhimlhpjbjfgaaCubeLib
namespace Go.Proofs.Ytfhimlhpjbjfgaa
open Go Go.Pod Go.Proofs

/-! ### CubeThree -/

theorem three_iff {a b c : S_api_Cube} (ha : UC a) (hb : UC b) (hc : UC c) : (MOK a b ∧ MOK (un a b 12) c) ↔ (MOK b c ∧ MOK a (un b c 12)) := by
  have key : ∀ {a b c : S_api_Cube}, UC a → UC b → UC c → snd a = true → snd b = true → snd c = true → ∀ i, i < 12 → ∀ k,
      ((tb (a.f1 i) k = true → tb (b.f1 i) k = true → tb (a.f0 i) k = tb (b.f0 i) k) ∧ (tb ((un a b 12).f1 i) k = true → tb (c.f1 i) k = true → tb ((un a b 12).f0 i) k = tb (c.f0 i) k)) ↔
      ((tb (b.f1 i) k = true → tb (c.f1 i) k = true → tb (b.f0 i) k = tb (c.f0 i) k) ∧ (tb (a.f1 i) k = true → tb ((un b c 12).f1 i) k = true → tb (a.f0 i) k = tb ((un b c 12).f0 i) k)) := by
    intro a b c ha hb hc sa sb sc i hi k
    rw [un_v ha hb hi, un_c ha hb hi, un_v hb hc hi, un_c hb hc hi]
    have h1 := ((snd_iff ha).1 sa).2 i hi k
    have h2 := ((snd_iff hb).1 sb).2 i hi k
    have h3 := ((snd_iff hc).1 sc).2 i hi k
    revert h1 h2 h3
    cases tb (a.f0 i) k <;> cases tb (b.f0 i) k <;> cases tb (c.f0 i) k <;> cases tb (a.f1 i) k <;> cases tb (b.f1 i) k <;> cases tb (c.f1 i) k <;> simp
  constructor
  · rintro ⟨h1, h2⟩
    have K := fun i hi k => (key ha hb hc h1.sa h1.sb h2.sb i hi k).1 ⟨h1.n i hi k, h2.n i hi k⟩
    have m : MOK b c := ⟨h1.sb, h2.sb, fun i hi k => (K i hi k).1⟩
    exact ⟨m, h1.sa, snd_un hb hc m.sa m.sb, fun i hi k => (K i hi k).2⟩
  · rintro ⟨h1, h2⟩
    have K := fun i hi k => (key ha hb hc h2.sa h1.sa h1.sb i hi k).2 ⟨h1.n i hi k, h2.n i hi k⟩
    have m : MOK a b := ⟨h2.sa, h1.sa, fun i hi k => (K i hi k).1⟩
    exact ⟨m, snd_un ha hb m.sa m.sb, h1.sb, fun i hi k => (K i hi k).2⟩

theorem three_eq {a b c : S_api_Cube} (ha : UC a) (hb : UC b) (hc : UC c) : eqc (un (un a b 12) c 12) (un a (un b c 12) 12) = true := by
  rw [eqc_bits (uc_un (uc_un ha 12) 12) (uc_un ha 12)]
  intro i hi k
  rw [un_v (uc_un ha 12) hc hi, un_c (uc_un ha 12) hc hi, un_v ha (uc_un hb 12) hi, un_c ha (uc_un hb 12) hi, un_v ha hb hi, un_c ha hb hi, un_v hb hc hi, un_c hb hc hi, Bool.or_assoc, Bool.or_assoc]
  exact ⟨rfl, rfl⟩

theorem three_fin {o1 y1 o2 y2 q : Bool} (h : (o1 && y1) = (o2 && y2)) (hq : o1 = true → y1 = true → q = true) :
    some (bif (bif true then ((bif o1 then y1 else false) == (bif o2 then y2 else false)) else false) then (bif (bif (!o1) then true else (!y1)) then true else q) else false) = some true := by
  cases o1 <;> cases y1 <;> cases o2 <;> cases y2 <;> simp_all

theorem pl_CubeThree (a : S_api_Cube) (wa : S_api_Cube.wf a) (b : S_api_Cube) (wb : S_api_Cube.wf b) (c : S_api_Cube) (wc : S_api_Cube.wf c) : ∃ fu, F_law02_CubeThree fu a b c = some true := by
  have ha := uc_wf wa
  have hb := uc_wf wb
  have hc := uc_wf wc
  refine ⟨64, ?_⟩
  unfold F_law02_CubeThree
  have h13 : 13 ≤ 64 := by omega
  rw [meet_mt h13 ha hb, Option.bind_some, meet_mt h13 (uc_mt ha) hc, Option.bind_some, meet_mt h13 hb hc, Option.bind_some, meet_mt h13 ha (uc_mt hb), Option.bind_some, answers, Option.bind_some]
  refine three_fin ?_ fun h1 h2 => ?_
  · simp only [mt_ok]
    have T := three_iff ha hb hc
    rw [← mok_iff ha hb, ← mok_iff (uc_un ha 12) hc, ← mok_iff hb hc, ← mok_iff ha (uc_un hb 12)] at T
    rw [Bool.eq_iff_iff, Bool.and_eq_true, Bool.and_eq_true]
    constructor
    · rintro ⟨k1, k2⟩
      rw [mt_un k1] at k2
      obtain ⟨k3, k4⟩ := T.1 ⟨k1, k2⟩
      exact ⟨k3, by rw [mt_un k3]; exact k4⟩
    · rintro ⟨k1, k2⟩
      rw [mt_un k1] at k2
      obtain ⟨k3, k4⟩ := T.2 ⟨k1, k2⟩
      exact ⟨k3, by rw [mt_un k3]; exact k4⟩
  · rw [mt_ok] at h1 h2
    have T := three_iff ha hb hc
    rw [← mok_iff ha hb, ← mok_iff (uc_un ha 12) hc, ← mok_iff hb hc, ← mok_iff ha (uc_un hb 12)] at T
    have h2' := h2
    rw [mt_un h1] at h2
    obtain ⟨k3, k4⟩ := T.1 ⟨h1, h2⟩
    have e1 : (mt (mt a b).1 c).1 = un (un a b 12) c 12 := by rw [mt_un h2', mt_un h1]
    have e2 : (mt a (mt b c).1).1 = un a (un b c 12) 12 := by rw [mt_un k3, mt_un k4]
    rw [e1, e2]
    exact three_eq ha hb hc

end Go.Proofs.Ytfhimlhpjbjfgaa
