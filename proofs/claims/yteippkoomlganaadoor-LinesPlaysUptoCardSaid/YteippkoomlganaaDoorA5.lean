import Derived.Test.YteippkoomlganaaDoorA4
set_option linter.unusedVariables false
set_option linter.unusedSimpArgs false
namespace Go.Proofs.YteippkoomlganaaDoor
open Go.RowKit

/-- From place p on, in the column n: the place of the column col of this line. -/
def placeW (s : ByteArray) (col : Int) : Nat → Nat → Int → Option Nat
  | 0, _, _ => none
  | k + 1, p, n => if p < s.size then (if n = col then some p else if (Utf8.decode s p).1 = 10 then none else placeW s col k (p + (Utf8.decode s p).2) (n + 1)) else if n = col then some s.size else none
def placeR : Option Nat → Int × Int
  | none => (0, 7)
  | some p => ((p : Nat), 0)
def placeF (s : ByteArray) (l c : Int) : Int × Int :=
  if l < 1 ∨ c < 1 then (0, 2) else
  match beginF s (l - 1).toNat 0 with
  | none => (0, 7)
  | some f => placeR (placeW s c (s.size + 1 - f) f 1)

theorem placeF_arg (s : ByteArray) (l c : Int) (h : l < 1 ∨ c < 1) : placeF s l c = (0, 2) := by unfold placeF; rw [if_pos h]
theorem placeF_none (s : ByteArray) (l c : Int) (h : ¬ (l < 1 ∨ c < 1)) (hb : beginF s (l - 1).toNat 0 = none) : placeF s l c = (0, 7) := by unfold placeF; rw [if_neg h, hb]
theorem placeF_some (s : ByteArray) (l c : Int) (f : Nat) (h : ¬ (l < 1 ∨ c < 1)) (hb : beginF s (l - 1).toNat 0 = some f) :
    placeF s l c = placeR (placeW s c (s.size + 1 - f) f 1) := by unfold placeF; rw [if_neg h, hb]

theorem beginF_le (s : ByteArray) : ∀ k f r, f ≤ s.size → beginF s k f = some r → r ≤ s.size
  | 0, f, r, hf, h => by simp only [beginF, Option.some.injEq] at h; omega
  | k + 1, f, r, hf, h => by
    unfold beginF at h
    have hle := indexByte_lt (s.extract f s.size).data.toList 10
    have hge := Lib.indexByte_ge (s.extract f s.size).data.toList 10
    rw [← Lib.size_eq, Lib.tail_size] at hle
    split at h
    · cases h
    · exact beginF_le s k _ r (by omega) h

theorem decode_in (s : ByteArray) (p : Nat) (h : p < s.size) : p + (Utf8.decode s p).2 ≤ s.size := by
  simp only [Utf8.decode]
  repeat' split
  all_goals simp_all
  all_goals omega
/-- What a character's first byte is answered as 10: the byte 10 alone. -/
theorem decode_ten (s : ByteArray) (p : Nat) : (Utf8.decode s p).1 = 10 ↔ s.get! p = 10 := by
  have hb : ∀ k, (s.get! (p + k)).toNat < 256 := fun k => (s.get! (p + k)).toNat_lt
  have h0 := hb 0
  have e : s.get! p = 10 ↔ (s.get! (p + 0)).toNat = 10 := by
    rw [Nat.add_zero]
    constructor
    · intro h; rw [h]; rfl
    · intro h; exact UInt8.toNat_inj.1 h
  rw [e]
  simp only [Utf8.decode]
  repeat' split
  all_goals simp_all [Utf8.runeError]
  all_goals omega

theorem placeW_fuel (s : ByteArray) (c : Int) : ∀ k k' p n, s.size - p < k → s.size - p < k' → placeW s c k p n = placeW s c k' p n
  | 0, _, _, _, h, _ => by omega
  | _, 0, _, _, _, h => by omega
  | k + 1, k' + 1, p, n, h, h' => by
    unfold placeW
    have hd := decode_two s p
    by_cases hp : p < s.size
    · rw [if_pos hp, if_pos hp, placeW_fuel s c k k' _ (n + 1) (by omega) (by omega)]
    · rw [if_neg hp, if_neg hp]
theorem placeW_step (s : ByteArray) (c : Int) (p : Nat) (n : Int) (hp : p ≤ s.size) :
    placeW s c (s.size + 1 - p) p n = if p < s.size then (if n = c then some p else if (Utf8.decode s p).1 = 10 then none else placeW s c (s.size + 1 - (p + (Utf8.decode s p).2)) (p + (Utf8.decode s p).2) (n + 1)) else if n = c then some s.size else none := by
  obtain ⟨k, hk⟩ : ∃ k, s.size + 1 - p = k + 1 := ⟨s.size - p, by omega⟩
  rw [hk]
  conv => lhs; unfold placeW
  have hd := decode_two s p
  by_cases hlt : p < s.size
  · rw [if_pos hlt, if_pos hlt]
    have hq := decode_in s p hlt
    rw [placeW_fuel s c k (s.size + 1 - (p + (Utf8.decode s p).2)) _ _ (by omega) (by omega)]
  · rw [if_neg hlt, if_neg hlt]

theorem ret2_ii {a a' b b' : Int} (h : a = a') (h' : b = b') : Ending.returned (.tuple #[.int .i64 a, .int .i64 b]) = .returned (.tuple #[.int .i64 a', .int .i64 b']) := by rw [h, h']

set_option maxHeartbeats 400000 in
theorem place_any (s : ByteArray) (l c : Int) (w : World) (hs : s.size ≤ 140737488351232) (hl2 : l ≤ 9223372036854775807) :
    Calls Tryd.prog 18 #[.string s, .int .i64 l, .int .i64 c] w fun e w' => e = .returned (.tuple #[.int .i64 (placeF s l c).1, .int .i64 (placeF s l c).2]) ∧ Below w.heap.size w w' := by
  by_cases ha : l < 1
  · rw [placeF_arg s l c (.inl ha)]
    go_enter Tryd.func18, Tryd.ntmps18
    go_wp2
    go_ret2
    exact ⟨rfl, Below.refl _ _⟩
  · by_cases hc : c < 1
    · rw [placeF_arg s l c (.inr hc)]
      go_enter Tryd.func18, Tryd.ntmps18
      go_wp2
      go_ret2
      exact ⟨rfl, Below.refl _ _⟩
    · have hbc := begin_any s l w hs (by omega) hl2
      cases hb : beginF s (l - 1).toNat 0 with
      | none =>
        rw [placeF_none s l c (by omega) hb]
        rw [hb] at hbc
        have HC := Aside1.mk hbc
        clear hbc hb
        go_enter Tryd.func18, Tryd.ntmps18
        go_wp2_with fail
        refine HC.out.mono ?_
        rintro e w1 ⟨rfl, hB1⟩
        have HB1 := Aside1.mk hB1
        clear hB1
        go_wp2_with fail
        go_ret2
        exact ⟨rfl, HB1.out⟩
      | some f =>
        rw [placeF_some s l c f (by omega) hb]
        have hfs := beginF_le s _ 0 f (by omega) hb
        rw [hb] at hbc
        have HC := Aside1.mk hbc
        obtain ⟨R, hR⟩ : ∃ R, placeW s c (s.size + 1 - f) f 1 = R := ⟨_, rfl⟩
        rw [hR]
        have HR := Aside1.mk hR
        clear hbc hb hR
        have hf1 : (f : Int) ≤ s.size := by omega
        go_enter Tryd.func18, Tryd.ntmps18
        go_wp2_with fail
        refine HC.out.mono ?_
        rintro e w1 ⟨rfl, hB1⟩
        have HB1 := Aside1.mk hB1
        clear hB1
        simp only [Option.getD_some, Option.isSome_some]
        go_wp2_with fail
        have hts : (s.extract f s.size).size = s.size - f := Lib.tail_size s f
        have htd : ∀ q, Utf8.decode (s.extract f s.size) q = Utf8.decode s (f + q) := fun q => Lib.tail_decode s f q
        generalize s.extract f s.size = t at hts htd ⊢
        have HTD := Aside1.mk htd
        clear htd
        go_loopw [10] (fun v wr => ∃ (p m : Nat), f + p ≤ s.size ∧ 1 ≤ m ∧ m ≤ p + 1 ∧ wr = w1.iter t p ∧ v = .int .i64 m ∧ placeW s c (s.size + 1 - (f + p)) (f + p) m = R) (fun _ wr => t.size - wr.iterPos w1.heap.size)
        case atStart => exact ⟨0, 1, by omega, by omega, by omega, rfl, rfl, HR.out⟩
        case round =>
          obtain ⟨p, m, hfp, hm1, hm2, rfl, rfl, hpl⟩ := hrel
          rw [placeW_step s c _ _ hfp] at hpl
          have HP := Aside1.mk hpl
          clear hpl
          by_cases hp : p < t.size
          · have hnx := fun ty => run_next_any (P := Tryd.prog) w1 t p ty hp
            obtain ⟨hd2, hd3⟩ := decode_two t p
            have hdi := decode_in t p hp
            have hdq : Hid (Utf8.decode s (f + p) = Utf8.decode t p) := (HTD.out p).symm
            have hlt : Hid (f + p < s.size) := by show f + p < s.size; omega
            by_cases hmc : (m : Int) = c
            · have hfin : Hid (R = some (f + p)) := by
                show R = _
                rw [← HP.out, if_pos hlt.out, if_pos hmc]
              have hb1 : ((m : Int) == c) = true := beq_iff_eq.2 hmc
              clear hmc
              go_wp2_with fail
              go_ret2
              exact ⟨by rw [hfin.out]; exact ret2_ii (by simp [placeR]) rfl, HB1.out.trans ((Below.refl _ _).alloc HB1.out.size _)⟩
            · have hb1 : ((m : Int) == c) = false := beq_eq_false_iff_ne.2 hmc
              by_cases ht : (Utf8.decode t p).1 = 10
              · have hfin : Hid (R = none) := by
                  show R = _
                  rw [← HP.out, if_pos hlt.out, if_neg hmc, hdq.out, if_pos ht]
                have hb2 : (((Utf8.decode t p).1 : Int) == 10) = true := beq_iff_eq.2 (by omega)
                clear hmc ht
                go_wp2_with fail
                go_ret2
                exact ⟨by rw [hfin.out]; rfl, HB1.out.trans ((Below.refl _ _).alloc HB1.out.size _)⟩
              · have hfin : Hid (placeW s c (s.size + 1 - (f + (p + (Utf8.decode t p).2))) (f + (p + (Utf8.decode t p).2)) ((m + 1 : Nat) : Int) = R) := by
                  show _ = R
                  rw [← HP.out, if_pos hlt.out, if_neg hmc, hdq.out, if_neg ht, Nat.add_assoc, Int.natCast_succ]
                have hb2 : (((Utf8.decode t p).1 : Int) == 10) = false := beq_eq_false_iff_ne.2 (by omega)
                clear hmc ht
                go_wp2_with fail
                go_roundw
                case rel => exact ⟨p + (Utf8.decode t p).2, m + 1, by omega, by omega, by omega, rfl, by go_num, hfin.out⟩
                case measure => simp; omega
          · have hnx := fun ty => run_next_end (P := Tryd.prog) w1 t p ty hp
            have hlt : Hid (¬ f + p < s.size) := by show ¬ f + p < s.size; omega
            by_cases hmc : (m : Int) = c
            · have hfin : Hid (R = some s.size) := by
                show R = _
                rw [← HP.out, if_neg hlt.out, if_pos hmc]
              have hb1 : ((m : Int) == c) = true := beq_iff_eq.2 hmc
              clear hmc
              go_wp2_with fail
              go_ret2
              exact ⟨by rw [hfin.out]; rfl, HB1.out.trans ((Below.refl _ _).alloc HB1.out.size _)⟩
            · have hfin : Hid (R = none) := by
                show R = _
                rw [← HP.out, if_neg hlt.out, if_neg hmc]
              have hb1 : ((m : Int) == c) = false := beq_eq_false_iff_ne.2 hmc
              clear hmc
              go_wp2_with fail
              go_ret2
              exact ⟨by rw [hfin.out]; rfl, HB1.out.trans ((Below.refl _ _).alloc HB1.out.size _)⟩
end Go.Proofs.YteippkoomlganaaDoor
