/- pantilelaw08: the chapter's example; what isn't there. -/
import Derived.Test.YtfkpanpageeklaaLwA
set_option linter.unusedSimpArgs false
set_option linter.unusedVariables false
namespace Go.Proofs.Ytfkpanpageeklaa
open Go.RowKit
/-- Three entries as they are written out. -/
theorem lit3 (w : World) (a b c d e f x y z : Nat) (ha : a < 2 ^ 64) (hb : b < 2 ^ 64) (hc : c < 2 ^ 64) (hd : d < 2 ^ 64) (he : e < 2 ^ 64) (hf : f < 2 ^ 64) (hx : x < 2 ^ 64) (hy : y < 2 ^ 64) (hz : z < 2 ^ 64) :
    EntsAt ((((w.alloc (.cells #[.int .u64 (a : Int), .int .u64 (b : Int)] 50)).alloc (.cells #[.int .u64 (c : Int), .int .u64 (d : Int)] 50)).alloc (.cells #[.int .u64 (e : Int), .int .u64 (f : Int)] 50)).alloc
      (.cells #[.slice (some ⟨w.heap.size, 0, none⟩) 2 2, .int .u64 (x : Int), .slice (some ⟨w.heap.size + 1, 0, none⟩) 2 2, .int .u64 (y : Int), .slice (some ⟨w.heap.size + 1 + 1, 0, none⟩) 2 2, .int .u64 (z : Int)] 63)) (some ⟨w.heap.size + 1 + 1 + 1, 0, none⟩) 3
      [⟨some ⟨w.heap.size, 0, none⟩, 2, 2, [a, b], x⟩, ⟨some ⟨w.heap.size + 1, 0, none⟩, 2, 2, [c, d], y⟩, ⟨some ⟨w.heap.size + 1 + 1, 0, none⟩, 2, 2, [e, f], z⟩] ∧
    Below w.heap.size w ((((w.alloc (.cells #[.int .u64 (a : Int), .int .u64 (b : Int)] 50)).alloc (.cells #[.int .u64 (c : Int), .int .u64 (d : Int)] 50)).alloc (.cells #[.int .u64 (e : Int), .int .u64 (f : Int)] 50)).alloc
      (.cells #[.slice (some ⟨w.heap.size, 0, none⟩) 2 2, .int .u64 (x : Int), .slice (some ⟨w.heap.size + 1, 0, none⟩) 2 2, .int .u64 (y : Int), .slice (some ⟨w.heap.size + 1 + 1, 0, none⟩) 2 2, .int .u64 (z : Int)] 63)) := by
  have p1 := pt_lit2 w a b ha hb
  have b1 := (Below.refl w.heap.size w).alloc (Nat.le_refl _) (.cells #[.int .u64 (a : Int), .int .u64 (b : Int)] 50)
  generalize hw1 : w.alloc (.cells #[.int .u64 (a : Int), .int .u64 (b : Int)] 50) = w1 at *
  have s1 : w1.heap.size = w.heap.size + 1 := by rw [← hw1]; simp
  have p2 := pt_lit2 w1 c d hc hd
  have b2 := (Below.refl w1.heap.size w1).alloc (Nat.le_refl _) (.cells #[.int .u64 (c : Int), .int .u64 (d : Int)] 50)
  generalize hw2 : w1.alloc (.cells #[.int .u64 (c : Int), .int .u64 (d : Int)] 50) = w2 at *
  have s2 : w2.heap.size = w.heap.size + 1 + 1 := by rw [← hw2]; simp [s1]
  have p3 := pt_lit2 w2 e f he hf
  have b3 := (Below.refl w2.heap.size w2).alloc (Nat.le_refl _) (.cells #[.int .u64 (e : Int), .int .u64 (f : Int)] 50)
  generalize hw3 : w2.alloc (.cells #[.int .u64 (e : Int), .int .u64 (f : Int)] 50) = w3 at *
  have s3 : w3.heap.size = w.heap.size + 1 + 1 + 1 := by rw [← hw3]; simp [s2]
  have b4 := (Below.refl w3.heap.size w3).alloc (Nat.le_refl _) (.cells #[.slice (some ⟨w.heap.size, 0, none⟩) 2 2, .int .u64 (x : Int), .slice (some ⟨w.heap.size + 1, 0, none⟩) 2 2, .int .u64 (y : Int), .slice (some ⟨w.heap.size + 1 + 1, 0, none⟩) 2 2, .int .u64 (z : Int)] 63)
  have n4 := Blk.new w3 63 #[.slice (some ⟨w.heap.size, 0, none⟩) 2 2, .int .u64 (x : Int), .slice (some ⟨w.heap.size + 1, 0, none⟩) 2 2, .int .u64 (y : Int), .slice (some ⟨w.heap.size + 1 + 1, 0, none⟩) 2 2, .int .u64 (z : Int)]
  rw [s3] at n4
  rw [s1] at p2
  rw [s2] at p3
  refine ⟨⟨Rw.of_blk n4 rfl (fun j u hu => by simpa [entv] using hu), fun r hr => ?_⟩, below_then b1 (below_then b2 (below_then b3 b4))⟩
  simp only [List.mem_cons, List.not_mem_nil, or_false] at hr
  rcases hr with rfl | rfl | rfl
  · exact ⟨p1.below (below_then b2 (below_then b3 b4)), by simp, by simp [maxLen], hx⟩
  · exact ⟨p2.below (below_then b3 b4), by simp, by simp [maxLen], hy⟩
  · exact ⟨p3.below b4, by simp, by simp [maxLen], hz⟩
theorem ent_none {w : World} {k : Nat} {e : Ending} {w' : World} (h : EntOut w k none e w') : e = .returned (.tuple #[.agg #[.slice none 0 0, .int .u64 0], .bool false]) ∧ Below w.heap.size w w' := by
  obtain ⟨r, ok, rfl, ⟨h1, ⟨_, _, h2⟩ | ⟨rfl, rfl, _⟩⟩, hb⟩ := h
  · cases h2
  · exact ⟨rfl, hb⟩
end Go.Proofs.Ytfkpanpageeklaa
