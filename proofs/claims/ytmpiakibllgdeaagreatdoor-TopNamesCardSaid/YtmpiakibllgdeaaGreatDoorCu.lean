/-
  All that the machine made for the kernel leans on holds of the program. No statement of the seat is proved here. Conditions: none.
-/
import Derived.Test.YtmpiakibllgdeaaGreatDoorCt
set_option linter.unusedVariables false
set_option linter.unusedSimpArgs false
namespace Go.Ab
open Go.Proofs

theorem placeN_eq {s : ByteArray} {c : Nat} {x : UInt8} (hx : x.toNat = c) : ∀ (n k : Nat), k + n = s.size → (List.range' k n).find? (fun i => s[i]! == x) = placeN c (s.data.toList.drop k) k
  | 0, k, h => by
    have : s.data.toList.drop k = [] := List.drop_eq_nil_of_le (by rw [Array.length_toList]; have h' : k + 0 = s.data.size := h; omega)
    rw [this]; rfl
  | n + 1, k, h => by
    have hk : k < s.data.toList.length := by rw [Array.length_toList]; have h' : k + (n + 1) = s.data.size := h; omega
    have hg : s[k]! = s.data.toList[k] := by
      have hd : k < s.data.size := by simpa using hk
      cases s with
      | mk d => simp only [getElem!_pos, ByteArray.size, hd]; rfl
    rw [List.range'_succ, List.find?_cons, List.drop_eq_getElem_cons hk, hg]
    have e : (s.data.toList[k] == x) = Nat.beq (s.data.toList[k]).toNat c := by
      rw [Bool.eq_iff_iff]
      simp only [beq_iff_eq, Nat.beq_eq, ← hx]
      exact ⟨fun h => by rw [h], fun h => UInt8.toNat_inj.1 h⟩
    simp only [placeN, e]
    cases Nat.beq (s.data.toList[k]).toNat c with
    | true => rfl
    | false => exact placeN_eq hx n (k + 1) (by omega)
theorem index_eq {s : ByteArray} {c : Nat} (hc : c < 256) : firstIdx s (Int.ofNat c).toNat.toUInt8 = (match placeN c s.data.toList 0 with | some i => .ofNat i | none => .negSucc 0) := by
  have hx : ((Int.ofNat c).toNat.toUInt8).toNat = c := by
    show (UInt8.ofNat c).toNat = c
    simp only [UInt8.toNat_ofNat']
    omega
  have := placeN_eq (s := s) hx s.size 0 (by omega)
  rw [List.drop_zero, ← List.range_eq_range'] at this
  unfold firstIdx
  rw [this]
  cases placeN c s.data.toList 0 <;> rfl

theorem ext_ok : ExtOK EE := by
  intro f g hg φ args args' v w A e
  change exts f = some g at hg
  unfold exts at hg
  cases h1 : Nat.beq f 265 with
  | true =>
    simp only [h1, cond_true, Option.some.injEq] at hg
    subst hg
    obtain rfl : f = 265 := Nat.eq_of_beq_eq_true h1
    unfold noEscapeE at e
    split at e
    · rename_i x
      cases e
      obtain ⟨l⟩ := args'
      cases A with
      | @cons _ v' _ _ a b =>
        cases b
        exact ⟨v', (run_callFunc_extern Tryz.func265 (by kernel_rfl) (by kernel_rfl) (by kernel_rfl) (e := Extern.AbiNoEscape.same) (by kernel_rfl) #[v'] w).trans rfl, a⟩
    · cases e
  | false =>
    simp only [h1, cond_false] at hg
    cases h2 : Nat.beq f 376 with
    | false => simp [h2] at hg
    | true =>
      simp only [h2, cond_true, Option.some.injEq] at hg
      subst hg
      obtain rfl : f = 376 := Nat.eq_of_beq_eq_true h2
      unfold indexB at e
      split at e
      · rename_i s c
        cases hb : Nat.blt c 256 with
        | false => simp [hb] at e
        | true =>
          simp only [hb, cond_true, Option.some.injEq] at e
          have hc : c < 256 := by simpa [Nat.blt_eq] using hb
          obtain ⟨x, y, rfl, hx, hy⟩ := two_args A
          obtain rfl := VR.number hy
          cases hx with
          | atom _ _ =>
            refine ⟨_, (run_callFunc_extern Tryz.func376 (by kernel_rfl) (by kernel_rfl) (by kernel_rfl) (e := Extern.BytealgIndexByte.indexByte) (by kernel_rfl) _ w).trans (by rw [run_indexByte_string]; rfl), ?_⟩
            rw [index_eq hc]
            subst e
            exact .atom _ rfl
      · cases e

/-- The same, without summaries. -/
noncomputable def EE0 : Env := { EE with sum := fun _ => none }
theorem blank_ok : memoOK EE0 5000 blank = true := by kernel_rfl
theorem sum_ok : SumOK EE := by
  intro f s hs w0 φ h w args args' v h' W G A e c cs
  change sums f = some s at hs
  unfold sums at hs
  have fin : ∀ {f : FuncId}, (h' = h ∧ VR φ v v ∧ Calls Tryz.prog f args' w fun e w' => e = .returned v ∧ w = w') →
      ∃ v' w' φ', Steps EE.P (lone (Frame.enter EE.P f args' .normal) (c :: cs) w) (lone (c.finish v') cs w') ∧ WR w0 φ' h' w' ∧ Ext h.next φ φ' ∧ VR φ' v v' ∧ Keeps h h' := by
    rintro f ⟨rfl, hV, C⟩
    exact ⟨v, w, φ, sum_of_calls C c cs, W, Ext.refl _ _, hV, Keeps.refl _⟩
  cases h1 : Nat.beq f 254 with
  | true =>
    simp only [h1, cond_true, Option.some.injEq] at hs
    subst hs
    obtain rfl : f = 254 := Nat.eq_of_beq_eq_true h1
    exact memo_sound (E := EE0) follows ext_ok (fun _ _ z => by cases z) blank_ok W G A e c cs
  | false =>
    simp only [h1, cond_false] at hs
    cases h2 : Nat.beq f 199 with
    | true =>
      simp only [h2, cond_true, Option.some.injEq] at hs
      subst hs
      obtain rfl : f = 199 := Nat.eq_of_beq_eq_true h2
      exact fin (crcE_sound W G A e)
    | false =>
      simp only [h2, cond_false] at hs
      cases h3 : Nat.beq f 333 with
      | true =>
        simp only [h3, cond_true, Option.some.injEq] at hs
        subst hs
        obtain rfl : f = 333 := Nat.eq_of_beq_eq_true h3
        exact fin (zerosE_sound W A e)
      | false =>
        simp only [h3, cond_false] at hs
        cases h4 : Nat.beq f 285 with
        | true =>
          simp only [h4, cond_true, Option.some.injEq] at hs
          subst hs
          obtain rfl : f = 285 := Nat.eq_of_beq_eq_true h4
          exact fin (withinE_sound W A e)
        | false => simp [h4] at hs
theorem sound : Sound := ⟨follows, ext_ok, sum_ok⟩
end Go.Ab
