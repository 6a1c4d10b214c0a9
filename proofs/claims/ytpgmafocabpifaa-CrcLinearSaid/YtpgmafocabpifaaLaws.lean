/- One law of the walk: a text turned into bytes; what is known of the world behind it. No condition. -/
import Derived.WalkKit
import Derived.WalkLawsBesides
import Derived.Laws.IdiomStrings
import Derived.Deep.OwnRows
namespace Go.Proofs.Ytpgmafocabpifaa
open Go.RowKit

section
variable {P : Program}

/-- '[]byte(s)'. -/
theorem wpList_bytes_of {ops : Array Oper} {rest : List Oper} {o : Oper} {a : Act} {w : World} {Q : Exit → Act → World → Prop} (hgd : o.guard = none) (src dst e : TypeId) (x : Operand) (ho : o.op = .convert src dst x)
    (s : ByteArray) (hx : a.eval x = .string s) (hs : P.underlying src = some .string) (hd : P.underlying dst = some (.slice e)) (he : P.underlying e = some (.int .u8))
    (h : ∀ (cap : Nat) (W : World), s.size ≤ cap → Below w.heap.size w W → W.heap.size = w.heap.size + 1 → (∀ j (hj : j < s.data.size), W.cell? ⟨w.heap.size, j, none⟩ = some (.int .u8 (s.data[j].toNat : Int))) →
      wpList P ops Q rest (a.put o.dst (.slice (some ⟨w.heap.size, 0, none⟩) s.size cap)) W) : wpList P ops Q (o :: rest) a w := by
  refine wpList_plain hgd fun K hK => ?_
  have hr := run_bytes_of_string w src dst e s hs hd he
  unfold Oper.wp execOp
  simp only [ho, hx, Sem.run_bind, Sem.run_pure, hr, Result.andThen_ok]
  refine hK _ _ (h _ _ (grownCap_ge _ _ _ _) ?_ ?_ ?_)
  · exact ((Below.refl _ _).drew).alloc (Nat.le_refl _) _
  · simp
  · intro j hj
    have := World.cell?_alloc_mark w.drew (bytesRow s (grownCap w s.size 0 e)) e ((bytesRow s (grownCap w s.size 0 e)).size, (bytesRow s (grownCap w s.size 0 e)).size + 1) j
    rw [bytesRow_at s _ j hj] at this
    exact this
end
end Go.Proofs.Ytpgmafocabpifaa
