/-
  Plain Lean: bytes in blocks of their own, of any size, are what comes.
-/
import Derived.Test.YtaapnjhkflpiiaaInfRoom
import Derived.Test.YtaapnjhkflpiiaaBitsPure
import Derived.Test.YtaapnjhkflpiiaaStoredPure
namespace Go.Proofs.Ytaapnjhkflpiiaa

theorem numAt_byte (d : List UInt8) (j : Nat) : numAt d (8 * j) 8 = (d.getD j 0).toNat := by
  have h := (d.getD j 0).toNat_lt
  rw [numAt_mod d (8 * j) (d.getD j 0).toNat 8 (fun i hi => by unfold bitAt; rw [show (8 * j + i) / 8 = j by omega, show (8 * j + i) % 8 = i by omega])]
  exact Nat.mod_eq_of_lt (by omega)
theorem numAt_add (d : List UInt8) (p a : Nat) : ∀ b, numAt d p (a + b) = numAt d p a + numAt d (p + a) b * 2 ^ a := by
  intro b
  induction b with
  | zero => simp [numAt]
  | succ b ih =>
    rw [← Nat.add_assoc, numAt, ih, numAt, Nat.add_mul, ← Nat.add_assoc p a b, Nat.pow_add, Nat.add_assoc]
    congr 2
    rw [Nat.mul_assoc, Nat.mul_comm (2 ^ b)]
theorem numR_byte (d : List UInt8) (j : Nat) (h : j < d.length) : numR d 8 (8 * j) = .ok ((d.getD j 0).toNat, 8 * (j + 1)) := by
  unfold numR; rw [if_pos (by omega), numAt_byte]; rfl
theorem numR_two (d : List UInt8) (j : Nat) (h : j + 1 < d.length) : numR d 16 (8 * j) = .ok ((d.getD j 0).toNat + (d.getD (j + 1) 0).toNat * 256, 8 * (j + 2)) := by
  unfold numR; rw [if_pos (by omega), show numAt d (8 * j) 16 = numAt d (8 * j) (8 + 8) from rfl, numAt_add, numAt_byte, show 8 * j + 8 = 8 * (j + 1) by omega, numAt_byte, show 8 * j + 16 = 8 * (j + 2) by omega]

theorem storedGo_bytes (d : List UInt8) (most : Int) : ∀ (n j : Nat) (out : List UInt8), j + n ≤ d.length → ((out.length + n : Nat) : Int) ≤ most → storedGo d most n (8 * j) out = .ok (8 * (j + n), out ++ (d.drop j).take n) := by
  intro n
  induction n with
  | zero => intro j out h1 h2; simp [storedGo]
  | succ n ih =>
    intro j out h1 h2
    rw [storedGo_b, numR_byte d j (by omega)]
    show ((putR most out (UInt8.ofNat (d.getD j 0).toNat)).bind fun o => storedGo d most n (8 * (j + 1)) o) = _
    have hp : putR most out (UInt8.ofNat (d.getD j 0).toNat) = .ok (out ++ [d.getD j 0]) := by
      unfold putR; rw [if_neg (by omega)]; simp
    rw [hp]
    show storedGo d most n (8 * (j + 1)) (out ++ [d.getD j 0]) = _
    rw [ih (j + 1) _ (by omega) (by rw [List.length_append, List.length_singleton]; omega), List.append_assoc, show j + 1 + n = j + (n + 1) by omega]
    congr 3
    rw [List.drop_eq_getElem_cons (show j < d.length by omega), List.take_succ_cons, List.getD_eq_getElem?_getD, List.getElem?_eq_getElem (by omega)]
    rfl

/-- Bytes in blocks of their own, of so many bytes each. -/
def storedE (each : Nat) : Nat → List UInt8 → List UInt8
  | 0, _ => []
  | f + 1, b => if min b.length each = b.length then storedHead (min b.length each) 1 ++ b.take (min b.length each) else storedHead (min b.length each) 0 ++ b.take (min b.length each) ++ storedE each f (b.drop (min b.length each))
theorem storedE_F : ∀ (f : Nat) (b : List UInt8), storedF f b = storedE 65535 f b := by
  intro f
  induction f with
  | zero => intro b; rfl
  | succ f ih => intro b; rw [storedE, ← ih]; rfl

theorem stored_block (n l : Nat) (hl : l < 2) (hn : n ≤ 65535) (x r : List UInt8) (hx : x.length = n) (most : Int) (f : Nat) (out : List UInt8) (hm : ((out.length + n : Nat) : Int) ≤ most) :
    rawGo (storedHead n l ++ x ++ r) most (f + 1) 0 out = if l = 1 then .ok (8 * (5 + n), out ++ x) else rawGo (storedHead n l ++ x ++ r) most f (8 * (5 + n)) (out ++ x) := by
  obtain ⟨d, hd⟩ : ∃ d, d = storedHead n l ++ x ++ r := ⟨_, rfl⟩
  have hlen : d.length = 5 + n + r.length := by rw [hd, List.length_append, List.length_append, hx]; rfl
  have d0 : d.getD 0 0 = UInt8.ofNat l := by rw [hd]; rfl
  have d1 : d.getD 1 0 = UInt8.ofNat (n % 256) := by rw [hd]; rfl
  have d2 : d.getD 2 0 = UInt8.ofNat (n / 256) := by rw [hd]; rfl
  have d3 : d.getD 3 0 = UInt8.ofNat (255 - n % 256) := by rw [hd]; rfl
  have d4 : d.getD 4 0 = UInt8.ofNat (255 - n / 256) := by rw [hd]; rfl
  have hdrop : (d.drop 5).take n = x := by
    rw [hd, List.append_assoc, show (5 : Nat) = (storedHead n l).length from rfl, List.drop_left, ← hx, List.take_left]
  rw [← hd]
  have b0 : ∀ i, i < 8 → bitAt d i = l / 2 ^ i % 2 := fun i hi => by
    unfold bitAt
    rw [show i / 8 = 0 by omega, d0, show i % 8 = i by omega]
    congr 2
    simp; omega
  have n1 : numR d 1 0 = .ok (l, 1) := by
    have := num_bits d 0 1 l (by omega) (fun i hi => by rw [Nat.zero_add]; exact b0 i (by omega))
    rw [this, Nat.mod_eq_of_lt (by omega)]
  have n2 : numR d 2 1 = .ok (0, 3) := num_bits d 1 2 0 (by omega) (fun i hi => by
    rw [b0 (1 + i) (by omega)]
    have : l / 2 ^ (1 + i) = 0 := Nat.div_eq_of_lt (Nat.lt_of_lt_of_le hl (by rw [Nat.add_comm, Nat.pow_succ]; have := Nat.pow_pos (n := i) (show 0 < 2 by decide); omega))
    rw [this]; simp)
  have n3 : numR d 16 8 = .ok (n, 24) := by
    have := numR_two d 1 (by omega)
    rw [d1, d2] at this
    rw [show (8 : Nat) = 8 * 1 from rfl, this]
    congr 2
    simp; omega
  have n4 : numR d 16 24 = .ok (65535 - n, 40) := by
    have := numR_two d 3 (by omega)
    rw [d3, d4] at this
    rw [show (24 : Nat) = 8 * 3 from rfl, this]
    congr 2
    simp; omega
  have hs : storedR d most 3 out = .ok (8 * (5 + n), out ++ x) := by
    rw [storedR_b, show (3 + 7) / 8 * 8 = 8 from rfl, n3]
    show ((numR d 16 24).bind fun y => if y.1 + n = 65535 then storedGo d most n y.2 out else .error 4) = _
    rw [n4]
    show (if 65535 - n + n = 65535 then storedGo d most n (8 * 5) out else .error 4) = _
    rw [if_pos (by omega), storedGo_bytes d most n 5 out (by omega) hm, hdrop]
  rw [rawGo_b, n1]
  show ((numR d 2 1).bind fun y => (blockR d most y.1 y.2 out).bind fun z => if l = 1 then .ok z else rawGo d most f z.1 z.2) = _
  rw [n2]
  show ((blockR d most 0 3 out).bind fun z => if l = 1 then .ok z else rawGo d most f z.1 z.2) = _
  rw [show blockR d most 0 3 out = storedR d most 3 out from rfl, hs]
  rfl

theorem raw_storedE (each : Nat) (h1 : 1 ≤ each) (h2 : each ≤ 65535) (most : Int) : ∀ (f : Nat) (b out : List UInt8) (F : Nat), b.length < f → ((out.length + b.length : Nat) : Int) ≤ most → 8 * (storedE each f b).length < F →
    rawGo (storedE each f b) most F 0 out = .ok (8 * (storedE each f b).length, out ++ b) := by
  intro f
  induction f with
  | zero => intro b out F h; omega
  | succ f ih =>
    intro b out F hf hm hF
    obtain ⟨F, rfl⟩ : ∃ g, F = g + 1 := ⟨F - 1, by omega⟩
    rw [storedE] at hF ⊢
    split
    · rename_i hn
      have ht : b.take (min b.length each) = b := by rw [hn, List.take_length]
      have := stored_block (min b.length each) 1 (by decide) (by omega) (b.take (min b.length each)) [] (by rw [List.length_take]; omega) most F out (by omega)
      rw [List.append_nil, if_pos rfl] at this
      rw [this, ht, List.length_append]
      congr 2
      rw [hn]; rfl
    · rename_i hn
      rw [if_neg hn] at hF
      have hne : min b.length each = each := by omega
      rw [hne] at hF ⊢
      have hx : (b.take each).length = each := by rw [List.length_take]; omega
      rw [stored_block each 0 (by decide) h2 (b.take each) _ hx most F out (by omega), if_neg (by decide)]
      have hhl : (storedHead each 0 ++ b.take each).length = 5 + each := by rw [List.length_append, hx]; rfl
      rw [List.length_append, hhl] at hF
      have hI := ih (b.drop each) (out ++ b.take each) (8 * (storedE each f (b.drop each)).length + 1) (by rw [List.length_drop]; omega) (by rw [List.length_append, List.length_drop, hx]; omega) (by omega)
      have hfol := rawGo_fol (agr_behind (storedHead each 0 ++ b.take each) (storedE each f (b.drop each))) most (8 * (storedE each f (b.drop each)).length + 1) F 0 (out ++ b.take each) (by omega) (by omega) (by rw [List.length_append, hhl]; omega)
      rw [hI] at hfol
      have h3 := hfol.1 (Nat.le_refl _)
      rw [hhl, Nat.add_zero] at h3
      rw [h3, List.length_append, hhl]
      simp only [sh2]
      rw [List.append_assoc, List.take_append_drop]
      congr 2
      omega

theorem rawOf_storedE (each : Nat) (h1 : 1 ≤ each) (h2 : each ≤ 65535) (f : Nat) (b : List UInt8) (hf : b.length < f) (most : Int) (hm : (b.length : Int) ≤ most) : rawOf (storedE each f b) most = (b, (storedE each f b).length, 0) := by
  rw [rawOf_end, raw_storedE each h1 h2 most f b [] _ hf (by simpa using hm) (Nat.lt_succ_self _)]
  show (([] : List UInt8) ++ b, (8 * (storedE each f b).length + 7) / 8, 0) = _
  rw [List.nil_append]
  congr 2
  omega

end Go.Proofs.Ytaapnjhkflpiiaa
