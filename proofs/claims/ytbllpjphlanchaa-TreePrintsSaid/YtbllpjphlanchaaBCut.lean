/-
  bytes.Cut at a separator of one byte.
-/
import Derived.Test.YtbllpjphlanchaaShelfT
import Derived.Test.YtbllpjphlanchaaBuf
import Derived.Lib.IndexLaws
import Derived.WalkSmall
namespace Go.Proofs.Ytbllpjphlanchaa
open Go.RowKit Go.Mix

theorem bcut_any {w : World} {ad : Addr} {l : List UInt8} {cap b2 d : Nat} (c : UInt8) (hl : Bs w (some ad) l) (hcap : l.length ≤ cap) (hbig : l.length ≤ 1000000000) (hc2 : w.cell? ⟨b2, 0, none⟩ = some (.int .u8 (c.toNat : Int))) :
    Calls Try.prog 34 #[.slice (some ad) l.length cap, .slice (some ⟨b2, 0, none⟩) 1 d] w fun e w' => Below w.heap.size w w' ∧
      ((∃ (i : Nat) (a2 : Addr), i < l.length ∧ l[i]? = some c ∧ (∀ k : Nat, k < i → l[k]? ≠ some c) ∧ e = .returned (.tuple #[.slice (some ad) i cap, .slice (some a2) (l.length - (i + 1)) (cap - (i + 1)), .bool true]) ∧ ∀ W0, Bs W0 (some ad) l → Bs W0 (some a2) (l.drop (i + 1))) ∨
       ((∀ k : Nat, l[k]? ≠ some c) ∧ e = .returned (.tuple #[.slice (some ad) l.length cap, .slice none 0 0, .bool false]))) := by
  have hI : Calls Try.prog 40 #[.slice (some ad) l.length cap, .slice (some ⟨b2, 0, none⟩) 1 d] w fun e w' => e = .returned (.int .i64 (Lib.indexByte l c)) ∧ w' = w := by
    have h := Try.bytes_Index_one_at ad l.length cap b2 0 d (l.map fun x => (x.toNat : Int)) (c.toNat : Int) w (by simp) (fun i hi => ?_) hc2
    · have e1 : Lib.bytesOf (l.map fun x => (x.toNat : Int)) = l := by
        unfold Lib.bytesOf
        rw [List.map_map]
        conv => rhs; rw [← List.map_id l]
        congr 1
        funext x; simp
      rw [e1] at h
      have e2 : ((c.toNat : Int)).toNat.toUInt8 = c := by simp
      rw [e2] at h
      exact h
    · rcases hl with rfl | ⟨b, off, he, hc⟩
      · simp at hi
      · obtain rfl : ad = ⟨b, off, none⟩ := by simpa using he
        have hadd : (⟨b, off, none⟩ : Addr).add i = ⟨b, off + i, none⟩ := by unfold Addr.add; split <;> simp_all
        rw [hadd, hc i hi]
        simp [hi]
  have hge := Lib.indexByte_ge l c
  obtain ⟨r, hr⟩ : ∃ r, r = Lib.indexByte l c := ⟨_, rfl⟩
  rw [← hr] at hI hge
  by_cases h0 : 0 ≤ r
  · obtain ⟨i, rfl⟩ : ∃ i : Nat, r = (i : Int) := ⟨r.toNat, by omega⟩
    obtain ⟨h1, h2⟩ := Lib.indexByte_some hr.symm
    have hi : i < l.length := (List.getElem?_eq_some_iff.1 h1).1
    refine (Try.bytes_Cut_of (some ad) (some ⟨b2, 0, none⟩) l.length cap 1 d (i : Int) w hcap (by omega) (fun _ => by omega) (by omega) (hI.mono fun e w' ⟨h1, h2⟩ => ⟨h1, 0, by rw [h2]; rfl⟩)).mono ?_
    rintro e w' ⟨rfl, q, rfl⟩
    refine ⟨below_drewN (Below.refl _ _) q, .inl ⟨i, if cap = i + 1 then ad else ad.add (i + 1), hi, h1, h2, ?_, ?_⟩⟩
    · unfold Lib.cutV Lib.fromV
      rw [if_pos (by omega), Int.toNat_natCast]
      split <;> rfl
    · intro W0 h0
      have h := h0.drop cap (i + 1) hcap
      unfold subAt at h
      split at h
      · rename_i h3; rw [if_pos h3]; exact h
      · rename_i h3; rw [if_neg h3]; exact h
  · obtain rfl : r = -1 := by omega
    have hn := Lib.indexByte_none hr.symm
    refine (Try.bytes_Cut_of (some ad) (some ⟨b2, 0, none⟩) l.length cap 1 d (-1) w hcap (by omega) (fun h => by omega) (by omega) (hI.mono fun e w' ⟨h1, h2⟩ => ⟨h1, 0, by rw [h2]; rfl⟩)).mono ?_
    rintro e w' ⟨rfl, q, rfl⟩
    exact ⟨below_drewN (Below.refl _ _) q, .inr ⟨hn, rfl⟩⟩
end Go.Proofs.Ytbllpjphlanchaa
