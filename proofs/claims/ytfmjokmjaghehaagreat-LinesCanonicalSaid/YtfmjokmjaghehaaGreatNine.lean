
/- Layer 9: numbers, the plain sums. -/
import Derived.Test.YtfmjokmjaghehaaGreatVarint7
set_option linter.unusedVariables false
set_option linter.unusedSimpArgs false
namespace Go.Proofs.YtfmjokmjaghehaaGreat
open Go.Eng
def wdN : List Int → Nat
  | [] => 0
  | x :: t => max (Lib.bitLen x.toNat) (wdN t)
theorem wdN_ok : ∀ {l : List Int}, Wd l → IsWidth l (wdN l : Int)
  | [], _ => ⟨by simp [wdN], by simp [wdN], fun w => by simp [wdN]⟩
  | x :: t, hl => by
    have hx := Wd.head hl
    obtain ⟨h1, h2, h3⟩ := wdN_ok (Wd.tail hl)
    have hb := (bitLen_le_iff (x := x.toNat) (w := 64) (by omega)).2 (by omega)
    refine ⟨by omega, by simp only [wdN]; omega, fun w => ?_⟩
    have h4 := h3 w
    have h5 := bitLen_le_iff (x := x.toNat) (w := w) (by omega)
    rw [← lt_p2 hx.1] at h5
    rw [List.forall_mem_cons, ← h4, ← h5]
    simp only [wdN]
    omega
theorem wdN_le {l : List Int} (hl : Wd l) : wdN l ≤ 64 := by have := (wdN_ok hl).2.1; omega
def byteOf (f : Nat → Bool) : Nat := (f 0).toNat + 2 * (f 1).toNat + 4 * (f 2).toNat + 8 * (f 3).toNat + 16 * (f 4).toNat + 32 * (f 5).toNat + 64 * (f 6).toNat + 128 * (f 7).toNat
theorem byteOf_lt (f : Nat → Bool) : byteOf f < 256 := by
  unfold byteOf
  have h := fun i => Bool.toNat_le (f i)
  have h0 := h 0
  have h1 := h 1
  have h2 := h 2
  have h3 := h 3
  have h4 := h 4
  have h5 := h 5
  have h6 := h 6
  have h7 := h 7
  omega
theorem byte_bits : ∀ (a b c d e g h i : Bool) (k : Fin 8), (a.toNat + 2 * b.toNat + 4 * c.toNat + 8 * d.toNat + 16 * e.toNat + 32 * g.toNat + 64 * h.toNat + 128 * i.toNat).testBit k.val = ([a, b, c, d, e, g, h, i].getD k.val false) := by decide +kernel
theorem byteOf_bit (f : Nat → Bool) {k : Nat} (hk : k < 8) : (byteOf f).testBit k = f k := by
  refine (byte_bits (f 0) (f 1) (f 2) (f 3) (f 4) (f 5) (f 6) (f 7) ⟨k, hk⟩).trans ?_
  match k, hk with
  | 0, _ => rfl
  | 1, _ => rfl
  | 2, _ => rfl
  | 3, _ => rfl
  | 4, _ => rfl
  | 5, _ => rfl
  | 6, _ => rfl
  | 7, _ => rfl
def pk (l : List Int) (w : Nat) : List Int := (List.range ((l.length * w + 7) / 8)).map fun i => (byteOf (fun k => decide (8 * i + k < l.length * w) && bof l w (8 * i + k)) : Int)
theorem pk_length (l : List Int) (w : Nat) : (pk l w).length = (l.length * w + 7) / 8 := by simp [pk]
theorem pk_Packed (l : List Int) (w : Nat) : Packed l w (pk l w) := by
  refine ⟨?_, pk_length l w, fun p => ?_⟩
  · intro x hx
    obtain ⟨i, _, rfl⟩ := List.mem_map.1 hx
    have := byteOf_lt (fun k => decide (8 * i + k < l.length * w) && bof l w (8 * i + k))
    omega
  · by_cases h : p / 8 < (l.length * w + 7) / 8
    · unfold bitAt pk
      rw [List.getD_eq_getElem?_getD, List.getElem?_map, List.getElem?_range h]
      simp only [Option.map_some, Option.getD_some]
      rw [nb_nat, byteOf_bit _ (Nat.mod_lt _ (by omega)), Nat.div_add_mod]
    · rw [bitAt_out (by rw [pk_length]; omega)]
      simp [show ¬ p < l.length * w by omega]
def encs : List Int → List Int
  | [] => []
  | x :: t => enc x.toNat ++ encs t
theorem encs_bt : ∀ l : List Int, Bt (encs l)
  | [] => Bt.nil
  | x :: t => Bt.append (enc_bt _) (encs_bt t)
theorem encs_len : ∀ {l : List Int}, Wd l → (encs l).length ≤ 10 * l.length
  | [], _ => by simp [encs]
  | x :: t, h => by
    have hx := Wd.head h
    have h1 := enc_le10 (v := x.toNat) (by omega)
    have h2 := encs_len (Wd.tail h)
    simp only [encs, List.length_append, List.length_cons]
    omega
def nE (l : List Int) : List Int := if 2 + (pk l (wdN l)).length < 1 + (encs l).length then 1 :: (wdN l : Int) :: pk l (wdN l) else 0 :: encs l
theorem nE_bt {l : List Int} (h : Wd l) : Bt (nE l) := by
  have := wdN_le h
  unfold nE
  split
  · exact Bt.append (Bt.one (by omega)) (Bt.append (Bt.one (by omega)) (pk_Packed l (wdN l)).1)
  · exact Bt.append (Bt.one (by omega)) (encs_bt l)
theorem pk_small {l : List Int} (h : Wd l) (hn : l.length ≤ 65536) : (pk l (wdN l)).length ≤ 524288 := by
  have := Nat.mul_le_mul hn (wdN_le h)
  rw [pk_length]
  omega
theorem nE_len {l : List Int} (h : Wd l) : (nE l).length ≤ 1 + (encs l).length ∧ (nE l).length ≤ 2 + (pk l (wdN l)).length ∧ 0 < (nE l).length := by
  unfold nE
  split
  · simp only [List.length_cons]; omega
  · simp only [List.length_cons]; omega
theorem nE_small {l : List Int} (h : Wd l) (hn : l.length ≤ 65536) : (nE l).length ≤ 524290 := by
  have h1 := (nE_len h).2.1
  have h2 := pk_small h hn
  omega
def rdn : Nat → List Int → Int → List Int × Int × Int
  | 0, _, at_ => ([], at_, 0)
  | n + 1, b, at_ =>
    if (rd b at_).2.2 = 0 then
      (if (rdn n b (rd b at_).2.1).2.2 = 0 then (((rd b at_).1 : Int) :: (rdn n b (rd b at_).2.1).1, (rdn n b (rd b at_).2.1).2.1, 0)
       else ([], 0, (rdn n b (rd b at_).2.1).2.2))
    else ([], 0, (rd b at_).2.2)
theorem rd_ok {b : List Int} (hb : Bt b) {at_ : Int} (h : (rd b at_).2.2 = 0) : 0 ≤ at_ ∧ at_ < (rd b at_).2.1 ∧ (rd b at_).2.1 ≤ b.length ∧ b.drop at_.toNat = enc (rd b at_).1 ++ b.drop (rd b at_).2.1.toNat := by
  unfold rd at h ⊢
  by_cases h0 : (gp 10 b at_).2 = 0
  · obtain ⟨a0, a1, c, rest, h1, h2, h3, h4, h5, h6⟩ := gp_ok hb h0
    rw [h1] at h ⊢
    simp only [if_true] at h ⊢
    by_cases h7 : dv c < 2 ^ 64
    · simp only [if_pos h7] at h ⊢
      have hpos : 0 < c.length := List.length_pos_iff.2 h4.ne
      have hlen : (b.drop at_.toNat).length = (c ++ rest).length := by rw [h2]
      simp only [List.length_drop, List.length_append] at hlen
      refine ⟨a0, by omega, by omega, ?_⟩
      rw [h5, h2]
      congr 1
      rw [show (at_ + (c.length : Int)).toNat = at_.toNat + c.length by omega, ← List.drop_drop, h2]
      simp
    · rw [if_neg h7] at h; simp at h
  · rw [if_neg h0] at h; exact absurd h h0
theorem rdn_ok : ∀ {n : Nat} {b : List Int}, Bt b → ∀ {at_ : Int}, 0 ≤ at_ → at_ ≤ b.length → (rdn n b at_).2.2 = 0 →
    at_ ≤ (rdn n b at_).2.1 ∧ (rdn n b at_).2.1 ≤ b.length ∧ (rdn n b at_).1.length = n ∧ Wd (rdn n b at_).1 ∧ b.drop at_.toNat = encs (rdn n b at_).1 ++ b.drop (rdn n b at_).2.1.toNat
  | 0, b, _, at_, h0, h1, _ => ⟨Int.le_refl _, h1, rfl, Wd.nil, rfl⟩
  | n + 1, b, hb, at_, h0, h1, h => by
    unfold rdn at h ⊢
    by_cases c : (rd b at_).2.2 = 0
    · rw [if_pos c] at h ⊢
      obtain ⟨r1, r2, r3, r4⟩ := rd_ok hb c
      have rl := rd_lt b at_
      by_cases d : (rdn n b (rd b at_).2.1).2.2 = 0
      · rw [if_pos d]
        obtain ⟨i1, i2, i3, i4, i5⟩ := rdn_ok (n := n) hb (at_ := (rd b at_).2.1) (by omega) r3 d
        refine ⟨by simp only; omega, i2, by simp [i3], Wd.cons (by omega) i4, ?_⟩
        simp only [encs, Int.toNat_natCast]
        rw [r4, i5, List.append_assoc]
      · rw [if_neg d] at h; exact absurd h d
    · rw [if_neg c] at h; exact absurd h c
end Go.Proofs.YtfmjokmjaghehaaGreat
