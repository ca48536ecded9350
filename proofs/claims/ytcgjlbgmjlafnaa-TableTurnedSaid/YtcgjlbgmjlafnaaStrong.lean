/-
  PROVED HERE: Drop and Put turn the table's three blocks alone.
-/
import Derived.Test.YtcgjlbgmjlafnaaSeq
namespace Go.Proofs.Ytcgjlbgmjlafnaa
open Go.ChangeShapes Go.WideShapes Go.ChangeAt Go.RowKit

structure Turned (B t b o : Nat) (w w' : World) : Prop where
  below : Below B w w'
  size : w'.heap.size = w.heap.size
  others : ∀ k, k ≠ t → k ≠ b → k ≠ o → w'.heap[k]? = w.heap[k]?
section
variable {B t b o j : Nat} {w w' : World}
theorem Turned.refl (w : World) : Turned B t b o w w := ⟨Below.refl _ _, rfl, fun _ _ _ _ => rfl⟩
theorem Turned.setB (h : Turned B t b o w w') (hB : B ≤ b) (v : Value) : Turned B t b o w (w'.setCell ⟨b, j, none⟩ v) :=
  ⟨h.below.setCell (p := ⟨b, j, none⟩) hB v, (World.size_setCell _ _ _).trans h.size, fun k h1 h2 h3 => (Below.heap_setCell w' ⟨b, j, none⟩ v k h2).trans (h.others k h1 h2 h3)⟩
theorem Turned.setO (h : Turned B t b o w w') (hB : B ≤ o) (v : Value) : Turned B t b o w (w'.setCell ⟨o, j, none⟩ v) :=
  ⟨h.below.setCell (p := ⟨o, j, none⟩) hB v, (World.size_setCell _ _ _).trans h.size, fun k h1 h2 h3 => (Below.heap_setCell w' ⟨o, j, none⟩ v k h3).trans (h.others k h1 h2 h3)⟩
theorem Turned.setT (h : Turned B t b o w w') (hB : B ≤ t) (v : Value) : Turned B t b o w (w'.setCell ⟨t, j, none⟩ v) :=
  ⟨h.below.setCell (p := ⟨t, j, none⟩) hB v, (World.size_setCell _ _ _).trans h.size, fun k h1 h2 h3 => (Below.heap_setCell w' ⟨t, j, none⟩ v k h1).trans (h.others k h1 h2 h3)⟩
theorem Turned.drew (h : Turned B t b o w w') : Turned B t b o w w'.drew := ⟨h.below.drew, h.size, h.others⟩
end

set_option maxRecDepth 100000 in
set_option maxHeartbeats 2000000 in
theorem drop_str (B t b o nb np : Nat) (T : Tab) (id : Int) (w : World) (h : TableAt w B t b o nb np T) (hG : Good T) :
    Calls Try.prog 11 #[.pointer (some ⟨t, 0, none⟩), .int .i64 id] w fun e w' => e = .returned (.bool (toldB T.ps id)) ∧ TableAt w' B t b o nb np (T.drop id) ∧ Turned B t b o w w' := by
  by_cases e : at' T.ps id = -1
  · have ed : T.drop id = T := by unfold Tab.drop; rw [if_pos e]
    have e1 : toldB T.ps id = false := by simp [toldB, e]
    rw [ed, e1]
    have H := Lib.hid h
    clear h ed
    go_enter Try.func11, Try.ntmps11
    go_wp2_with (go_at_call 12; refine (at_any B t b o nb np T id _ H.out).mono ?_; rintro e w' ⟨rfl, rfl⟩; rw [e1])
    go_ret
    exact ⟨rfl, H.out, Turned.refl _⟩
  · have e1 : toldB T.ps id = true := by simp [toldB, e]
    have e2 : toldV T.ps id = at' T.ps id := by simp [toldV, e]
    rw [e1]
    obtain ⟨a1, a2, a3⟩ := hG.fwd id e
    obtain ⟨b1, b2⟩ := at_in _ _ e
    have hcnt := hG.cp
    have hle := num_le T.ps
    rw [h.rp.len] at hle b2
    rw [h.ro.len] at a2
    have n1 := h.n1
    have n2 := h.n2
    have hD := h.drop id e
    have H := Lib.hid h
    have c1 := h.rp.cell id b1 b2
    have c2 := h.ro.cell (at' T.ps id) a1 a2
    have f1 := h.rp.free id.toNat
    have f2 := h.ro.free (at' T.ps id).toNat
    have c3 := h.h0
    have c4 := h.h1
    have c5 := h.h2
    have f3 := h.hf 2
    have m1 := h.ntb
    have m2 := h.nto
    have m3 := h.nbo
    have q1 : 0 ≤ T.cnt := by omega
    have q2 : T.cnt ≤ 1048576 := by omega
    have HD := Lib.hid hD
    have HB := Lib.hid h.rp.lt.1
    have HO := Lib.hid h.ro.lt.1
    have HT := Lib.hid h.tB
    clear h hD hG hcnt hle a3 e
    generalize at' T.ps id = p at *
    generalize T.cnt = cnt at *
    generalize at' T.os p = q at *
    go_enter Try.func11, Try.ntmps11
    go_wp2_with (go_at_call 12; refine (at_any B t b o nb np T id _ H.out).mono ?_; rintro e w' ⟨rfl, rfl⟩; rw [e1, e2])
    go_region
    go_wp2
    go_ret
    exact ⟨rfl, ⟨HD.out.h0, HD.out.h1, HD.out.h2, HD.out.hf, HD.out.rp, HD.out.ro, HD.out.ntb, HD.out.nto, HD.out.nbo, HD.out.tB, HD.out.n1, HD.out.n2⟩, ((((Turned.refl w).setB (j := id.toNat) HB.out _).setO (j := p.toNat) HO.out _).setT (j := 2) HT.out _).drew⟩

set_option maxRecDepth 100000 in
set_option maxHeartbeats 2000000 in
theorem put_str (B t b o nb np : Nat) (T : Tab) (id pl : Int) (w : World) (h : TableAt w B t b o nb np T) (hG : Good T) :
    Calls Try.prog 9 #[.pointer (some ⟨t, 0, none⟩), .int .i64 id, .int .i64 pl] w fun e w' => e = .returned (.bool (T.ok id pl)) ∧ TableAt w' B t b o nb np (T.put id pl) ∧ Turned B t b o w w' := by
  have r1 := inR_of T.ps nb h.rp.len id
  have r2 := inR_of T.os np h.ro.len pl
  have n1 := h.n1
  have n2 := h.n2
  have c3 := h.h0
  have c4 := h.h1
  by_cases hok : T.ok id pl = true
  · have hput : T.put id pl = ⟨(T.drop id).ps.set id.toNat pl, (T.drop id).os.set pl.toNat id, (T.drop id).cnt + 1⟩ := by unfold Tab.put; rw [if_pos hok]
    rw [hok, hput]
    simp only [Tab.ok, Bool.and_eq_true, Bool.or_eq_true, beq_iff_eq] at hok
    obtain ⟨k1, k2, k3⟩ := hok
    rw [r1] at k1
    rw [r2] at k2
    have i1 : 0 ≤ id ∧ id < nb := by simpa using k1
    have i2 : 0 ≤ pl ∧ pl < np := by simpa using k2
    obtain ⟨i1, i1'⟩ := i1
    obtain ⟨i2, i2'⟩ := i2
    have c6 := h.ro.cell pl i2 i2'
    have K3 := Lib.hid k3
    have H := Lib.hid h
    clear h hput k3 r1 r2
    have hD := fun w => drop_str B t b o nb np T id w
    have HDr := Lib.hid (fun w h => hD w h hG)
    have HGd := Lib.hid (hG.drop id)
    clear hD hG
    have hq : at' T.os pl = -1 ∨ ((at' T.os pl == -1) = false ∧ Hid (at' T.os pl = id)) := by
      by_cases e : at' T.os pl = -1
      · exact .inl e
      · rcases K3.out with k | k
        · exact absurd k e
        · exact .inr ⟨by simp [e], Lib.hid k⟩
    rcases hq with hq | ⟨hq, hq2⟩
    · rw [hq] at c6
      go_enter Try.func9, Try.ntmps9
      go_wp2_with (go_at_call 16; refine (within_any _ _ _ _ _ (by omega)).mono ?_; rintro e w' ⟨rfl, rfl⟩; first | rw [k1] | rw [k2])
      refine (HDr.out _ H.out).mono ?_
      rintro e w2 ⟨rfl, hT2, hB2⟩
      have hL := hT2.laid id.toNat pl.toNat id pl
      have g1 := hT2.rp.cell id i1 i1'
      have g2 := hT2.ro.cell pl i2 i2'
      have f1 := hT2.rp.free id.toNat
      have f2 := hT2.ro.free pl.toNat
      have g3 := hT2.h0
      have g4 := hT2.h1
      have g5 := hT2.h2
      have f3 := hT2.hf 2
      have m1 := hT2.ntb
      have m2 := hT2.nto
      have m3 := hT2.nbo
      have l1 := HGd.out.cp
      have l2 := num_le (T.drop id).ps
      rw [hT2.rp.len] at l2
      have q1 : 0 ≤ (T.drop id).cnt := by omega
      have q2 : (T.drop id).cnt ≤ 1048576 := by omega
      have HB := Lib.hid (((hB2.setB (j := id.toNat) hT2.rp.lt.1 (.int .i64 pl)).setO (j := pl.toNat) hT2.ro.lt.1 (.int .i64 id)).setT (j := 2) hT2.tB (.int .i64 ((T.drop id).cnt + 1)))
      have HL := Lib.hid hL
      clear l1 l2 hT2 hB2 hL c3 c4 c6 hq
      go_wp2
      go_region
      go_wp2
      go_ret
      exact ⟨rfl, ⟨HL.out.h0, HL.out.h1, HL.out.h2, HL.out.hf, HL.out.rp, HL.out.ro, HL.out.ntb, HL.out.nto, HL.out.nbo, HL.out.tB, HL.out.n1, HL.out.n2⟩, HB.out.drew⟩
    · have hid : (id == -1) = false := by simp; omega
      rw [hq2.out] at c6
      go_enter Try.func9, Try.ntmps9
      go_wp2_with (go_at_call 16; refine (within_any _ _ _ _ _ (by omega)).mono ?_; rintro e w' ⟨rfl, rfl⟩; first | rw [k1] | rw [k2])
      refine (HDr.out _ H.out).mono ?_
      rintro e w2 ⟨rfl, hT2, hB2⟩
      have hL := hT2.laid id.toNat pl.toNat id pl
      have g1 := hT2.rp.cell id i1 i1'
      have g2 := hT2.ro.cell pl i2 i2'
      have f1 := hT2.rp.free id.toNat
      have f2 := hT2.ro.free pl.toNat
      have g3 := hT2.h0
      have g4 := hT2.h1
      have g5 := hT2.h2
      have f3 := hT2.hf 2
      have m1 := hT2.ntb
      have m2 := hT2.nto
      have m3 := hT2.nbo
      have l1 := HGd.out.cp
      have l2 := num_le (T.drop id).ps
      rw [hT2.rp.len] at l2
      have q1 : 0 ≤ (T.drop id).cnt := by omega
      have q2 : (T.drop id).cnt ≤ 1048576 := by omega
      have HB := Lib.hid (((hB2.setB (j := id.toNat) hT2.rp.lt.1 (.int .i64 pl)).setO (j := pl.toNat) hT2.ro.lt.1 (.int .i64 id)).setT (j := 2) hT2.tB (.int .i64 ((T.drop id).cnt + 1)))
      have HL := Lib.hid hL
      clear l1 l2 hT2 hB2 hL c3 c4 c6 hq hid
      go_wp2
      go_region
      go_wp2
      go_ret
      exact ⟨rfl, ⟨HL.out.h0, HL.out.h1, HL.out.h2, HL.out.hf, HL.out.rp, HL.out.ro, HL.out.ntb, HL.out.nto, HL.out.nbo, HL.out.tB, HL.out.n1, HL.out.n2⟩, HB.out.drew⟩
  · have hput : T.put id pl = T := by unfold Tab.put; rw [if_neg hok]
    have hok2 : T.ok id pl = false := by simpa using hok
    rw [hok2, hput]
    have H := Lib.hid h
    by_cases k1 : inR T.ps id = true
    · by_cases k2 : inR T.os pl = true
      · have k3 : (at' T.os pl == -1) = false ∧ (at' T.os pl == id) = false := by simp [Tab.ok, k1, k2] at hok ⊢; exact hok
        obtain ⟨k3, k4⟩ := k3
        rw [r1] at k1
        rw [r2] at k2
        have i2 : 0 ≤ pl ∧ pl < np := by simpa using k2
        obtain ⟨i2, i2'⟩ := i2
        have c6 := h.ro.cell pl i2 i2'
        have k5 : (at' T.os pl != -1) = true := by rw [bne, k3]; rfl
        have k6 : (at' T.os pl != id) = true := by rw [bne, k4]; rfl
        clear h hput hok hok2 r1 r2
        generalize at' T.os pl = q at *
        go_enter Try.func9, Try.ntmps9
        go_wp2_with (go_at_call 16; refine (within_any _ _ _ _ _ (by omega)).mono ?_; rintro e w' ⟨rfl, rfl⟩; first | rw [k1] | rw [k2])
        go_ret
        exact ⟨rfl, H.out, Turned.refl _⟩
      · rw [r1] at k1
        have k2 : (decide (0 ≤ pl) && decide (pl < (np : Int))) = false := by rw [← r2]; simpa using k2
        clear h hput hok hok2 r1 r2
        go_enter Try.func9, Try.ntmps9
        go_wp2_with (go_at_call 16; refine (within_any _ _ _ _ _ (by omega)).mono ?_; rintro e w' ⟨rfl, rfl⟩; first | rw [k1] | rw [k2])
        go_ret
        exact ⟨rfl, H.out, Turned.refl _⟩
    · have k1 : (decide (0 ≤ id) && decide (id < (nb : Int))) = false := by rw [← r1]; simpa using k1
      clear h hput hok hok2 r1 r2
      go_enter Try.func9, Try.ntmps9
      go_wp2_with (go_at_call 16; refine (within_any _ _ _ _ _ (by omega)).mono ?_; rintro e w' ⟨rfl, rfl⟩; rw [k1])
      go_ret
      exact ⟨rfl, H.out, Turned.refl _⟩

end Go.Proofs.Ytcgjlbgmjlafnaa
