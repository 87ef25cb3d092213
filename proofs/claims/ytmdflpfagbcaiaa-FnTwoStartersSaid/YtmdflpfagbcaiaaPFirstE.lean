/- Plain laws: what FirstStart answers. -/
import Derived.Test.YtmdflpfagbcaiaaPStart
namespace Go.Proofs.Ytmdflpfagbcaiaa
open Go.RowKit
set_option linter.unusedVariables false
set_option linter.unusedSimpArgs false

/-- The nodes at these indices. -/
def nodesAt (l : List TStarter.T) (f : List Int) : List Int := f.map (fun k => match l[k.toNat]? with | some v => (v.1 : Int) | none => 0)
theorem first_eq (l : List TStarter.T) (hl : l.length ≤ 1099511627776) : ∃ (r : List Int) (e : Int), s_FirstStart (l, ()) = some (r, e, ()) ∧ i_FirstStart (l, ()) = some (r, e, ()) ∧ r.length ≤ 32 ∧ (startersB l = true → e = (0 : Int) ∧ r.length = (leastL (dueL l)).length) ∧ (startersB l = false → e = (1 : Int)) := by
  unfold s_FirstStart i_FirstStart
  simp only [s_starters, i_starters, hl]
  cases hs : startersB l
  · exact ⟨_, _, rfl, rfl, by simp, by simp, fun _ => rfl⟩
  · have hn := starters_len hs
    have hd : (dueL l).length = l.length := by simp [dueL]
    have hf := firsts_len (leastI (dueL l)) (dueL l)
    have hin : ∀ k ∈ leastL (dueL l), ∃ j : Nat, k = (j : Int) ∧ j < l.length := by
      intro k hk
      obtain ⟨j, rfl, h⟩ := (firsts_in _ _ _).1 hk
      obtain ⟨hj, _⟩ := List.getElem?_eq_some_iff.1 h
      exact ⟨j, rfl, by omega⟩
    simp only [Bool.not_true, s_due l (by omega), i_due l (by omega), s_first (dueL l) (by omega) (by omega), i_least (dueL l) (by omega) (by omega)]
    have hF : (leastL (dueL l)).length ≤ 32 := by
      have : (leastL (dueL l)).length ≤ (dueL l).length := hf
      omega
    generalize leastL (dueL l) = F at *
    have hval : ∀ i (h : i < F.length), ∃ v, idx l F[i] = some v ∧ (match l[F[i].toNat]? with | some v => (v.1 : Int) | none => 0) = v.1 := by
      intro i h
      obtain ⟨j, hj, hjl⟩ := hin F[i] (List.getElem_mem h)
      refine ⟨l[j], ?_, ?_⟩
      · rw [hj]; exact idx_nat hjl
      · rw [hj]; simp [hjl]
    have e1 := push_ok (B := b_s_FirstStart_6) F (by omega) (fun s i => (l, F, s, (i : Int), ())) (fun _ k => [match l[k.toNat]? with | some v => (v.1 : Int) | none => 0]) (by simp) (fun s => .inl (s, ())) (fun s => by simp only [b_s_FirstStart_6, lt_n]) (fun s i h hs' => by
      obtain ⟨v, hv1, hv2⟩ := hval i h
      simp only [b_s_FirstStart_6, lt_i h, next_i h (show F.length ≤ 1099511627776 by omega), idx_nat h, onSome, Int.toNat_natCast, List.getElem?_eq_getElem h, hv1]
      rw [hv2, room_ok (by simp; omega)])
    have e2 := push_ok (B := b_i_FirstStart_5) F (by omega) (fun s i => (l, s, F, (F.length : Int), (i : Int), ())) (fun _ k => [match l[k.toNat]? with | some v => (v.1 : Int) | none => 0]) (by simp) (fun s => .inl (s, ())) (fun s => by simp only [b_i_FirstStart_5, lt_n]) (fun s i h hs' => by
      obtain ⟨v, hv1, hv2⟩ := hval i h
      simp only [b_i_FirstStart_5, lt_i h, next_i h (show F.length ≤ 1099511627776 by omega), idx_nat h, onSome, Int.toNat_natCast, List.getElem?_eq_getElem h, hv1]
      rw [hv2, room_ok (by simp; omega)])
    have e1' : loopL b_s_FirstStart_6 (l, F, [], (0 : Int), ()) = _ := e1
    have e2' : loopL b_i_FirstStart_5 (l, [], F, (F.length : Int), (0 : Int), ()) = _ := e2
    simp only [e1', e2', pushes_map]
    exact ⟨_, _, rfl, rfl, by simpa using hF, fun _ => ⟨rfl, by simp⟩, fun h => by cases h⟩

end Go.Proofs.Ytmdflpfagbcaiaa
