/- Plain law: DueTimes. -/
import Derived.Test.YtmdflpfagbcaiaaPLead
namespace Go.Proofs.Ytmdflpfagbcaiaa
open Go.RowKit
set_option linter.unusedVariables false
set_option linter.unusedSimpArgs false

/-- The times after so many collisions. -/
def dueGo (l : List TStarter.T) : Nat → List Int → Option (List Int)
  | 0, d => some d
  | n + 1, d => if (leastL d).length = 1 then none else dueGo l n (collideL l d)
theorem dueGo_len {l : List TStarter.T} : ∀ {n : Nat} {d r : List Int}, dueGo l n d = some r → r.length = d.length
  | 0, d, r, h => by cases h; rfl
  | n + 1, d, r, h => by
    unfold dueGo at h
    split at h
    · cases h
    · rw [dueGo_len h, collide_len]
def dueOut : Option (List Int) → (List Int × Unit) ⊕ (List Int × Int × Unit)
  | some d => .inl (d, ())
  | none => .inr ([], 4, ())
theorem s_dueTimes_loop (l : List TStarter.T) (h1 : 1 ≤ l.length) (hl : l.length ≤ 1000000) : ∀ (n : Nat) (d : List Int), d.length = l.length → n ≤ 50 → loopL b_s_DueTimes_6 (l, (n : Int), d, ()) = some (dueOut (dueGo l n d))
  | 0, d, hd, hn => by
    rw [loopL_eq]
    rfl
  | n + 1, d, hd, hn => by
    have hgt : decide (((n + 1 : Nat) : Int) > 0) = true := by simp
    have hw : IntKind.i64.wrap (((n + 1 : Nat) : Int) - 1) = (n : Int) := by rw [wrap_i64] <;> omega
    rw [loopL_eq]
    unfold dueGo
    simp only [b_s_DueTimes_6, hgt, s_first d (by omega) (by omega)]
    by_cases hone : (leastL d).length = 1
    · have hb : (((leastL d).length : Int) == 1) = true := by rw [hone]; rfl
      simp only [hb, hone, if_true]
      rfl
    · have hb : (((leastL d).length : Int) == 1) = false := by simp; omega
      simp only [hb, s_collide_ok l d hd h1 hl, hw, hone, if_false]
      exact s_dueTimes_loop l h1 hl n (collideL l d) (by rw [collide_len]; exact hd) (by omega)
theorem i_dueTimes_loop (l : List TStarter.T) (h1 : 1 ≤ l.length) (hl : l.length ≤ 1000000) (m : Int) (hm : m ≤ 50) : ∀ (n k : Nat) (d : List Int), d.length = l.length → (k : Int) + n = m → loopL b_i_DueTimes_7 (l, d, m, (k : Int), ()) = some (dueOut (dueGo l n d))
  | 0, k, d, hd, hn => by
    have hlt : decide ((k : Int) < m) = false := by simp; omega
    rw [loopL_eq]
    simp only [b_i_DueTimes_7, hlt]
    rfl
  | n + 1, k, d, hd, hn => by
    have hlt : decide ((k : Int) < m) = true := by simp; omega
    have hw : IntKind.i64.wrap ((k : Int) + 1) = ((k + 1 : Nat) : Int) := next_i (n := 51) (by omega) (by omega)
    rw [loopL_eq]
    unfold dueGo
    simp only [b_i_DueTimes_7, hlt, i_least d (by omega) (by omega)]
    by_cases hone : (leastL d).length = 1
    · have hb : (((leastL d).length : Int) == 1) = true := by rw [hone]; rfl
      simp only [hb, hone, if_true]
      rfl
    · have hb : (((leastL d).length : Int) == 1) = false := by simp; omega
      simp only [hb, i_collide_ok l d hd h1 hl, hw, hone, if_false]
      exact i_dueTimes_loop l h1 hl m hm n (k + 1) (collideL l d) (by rw [collide_len]; exact hd) (by omega)

/-- What DueTimes answers. -/
def dueR (l : List TStarter.T) (k : Int) : List Int × Int × Unit := if startersB l then (if inB k 0 50 then (match dueGo l k.toNat (dueL l) with
  | some d => (d, 0, ())
  | none => ([], 4, ())) else ([], 2, ())) else ([], 1, ())
theorem dueR_len (l : List TStarter.T) (k : Int) : (dueR l k).1.length ≤ 32 := by
  unfold dueR
  split
  · rename_i hs
    have hn := starters_len hs
    split
    · split
      · rename_i d hd
        have := dueGo_len hd
        simp only [this]
        simp [dueL]; omega
      · simp
    · simp
  · simp
theorem s_dueTimes (l : List TStarter.T) (k : Int) (hl : l.length ≤ 1099511627776) : s_DueTimes (l, k, ()) = some (dueR l k) := by
  unfold s_DueTimes dueR
  simp only [s_starters, hl, s_in]
  cases hs : startersB l
  · rfl
  · have hn := starters_len hs
    rcases Bool.eq_false_or_eq_true (inB k 0 50) with hk | hk
    · obtain ⟨k0, k1⟩ := in_iff.1 hk
      have hkn : ((k.toNat : Nat) : Int) = k := by omega
      have e := s_dueTimes_loop l hn.1 (by omega) k.toNat (dueL l) (by simp [dueL]) (by omega)
      rw [hkn] at e
      simp only [hk, Bool.not_true, s_due l (by omega), e, if_true]
      cases dueGo l k.toNat (dueL l) <;> rfl
    · simp [hk]
theorem i_dueTimes (l : List TStarter.T) (k : Int) (hl : l.length ≤ 1099511627776) : i_DueTimes (l, k, ()) = some (dueR l k) := by
  unfold i_DueTimes dueR
  simp only [i_starters, hl, i_in]
  cases hs : startersB l
  · rfl
  · have hn := starters_len hs
    rcases Bool.eq_false_or_eq_true (inB k 0 50) with hk | hk
    · obtain ⟨k0, k1⟩ := in_iff.1 hk
      have hkn : ((k.toNat : Nat) : Int) = k := by omega
      have e := i_dueTimes_loop l hn.1 (by omega) k k1 k.toNat 0 (dueL l) (by simp [dueL]) (by omega)
      have e' : loopL b_i_DueTimes_7 (l, dueL l, k, (0 : Int), ()) = _ := e
      simp only [hk, Bool.not_true, i_due l (by omega), e', if_true]
      cases dueGo l k.toNat (dueL l) <;> rfl
    · simp [hk]
end Go.Proofs.Ytmdflpfagbcaiaa
