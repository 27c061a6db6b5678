/- The reference of the package scope: Check, exactly. -/
import Derived.Test.YtfmbddfenghnlaaGreatDoorWk137
import Derived.Test.YtfmbddfenghnlaaGreatDoorWk69
import Derived.Test.YtfmbddfenghnlaaGreatDoorWk133
set_option linter.all false
namespace Go.Proofs.YtfmbddfenghnlaaGreatDoor.Tx
open Go.Lf Go.Lf.S Go.Lf.Duo
set_option maxRecDepth 100000

def prN06 (d : Df) : List ByteArray := d.params.map Et.name
/-- a definition's name is new, and its parameters' names differ -/
def D06 (ds : List Df) (j : Nat) : Prop := ∀ d, ds[j]? = some d → (∀ q d', q < j → ds[q]? = some d' → d'.name ≠ d.name) ∧ (prN06 d).Nodup
theorem nd_take {l : List ByteArray} {k : Nat} (h : k < l.length) : (l.take (k + 1)).Nodup ↔ (l.take k).Nodup ∧ l[k] ∉ l.take k := by
  rw [List.take_succ_eq_append_getElem h, List.nodup_append]
  simp only [List.nodup_cons, List.not_mem_nil, not_false_eq_true, List.nodup_nil, and_true, List.mem_singleton, true_and]
  constructor
  · rintro ⟨h1, h2⟩
    exact ⟨h1, fun hm => h2 _ hm _ rfl rfl⟩
  · rintro ⟨h1, h2⟩
    exact ⟨h1, fun a ha b hb e => h2 (by rw [← hb, ← e]; exact ha)⟩

theorem nodup_at06 {l : List ByteArray} (hn : l.Nodup) {a b : Nat} {s : ByteArray} (ha : l[a]? = some s) (hb : l[b]? = some s) : a = b := by
  obtain ⟨h1, e1⟩ := List.getElem?_eq_some_iff.1 ha
  obtain ⟨h2, e2⟩ := List.getElem?_eq_some_iff.1 hb
  rw [List.Nodup, List.pairwise_iff_getElem] at hn
  rcases Nat.lt_trichotomy a b with h | h | h
  · exact absurd (e1.trans e2.symm) (hn a b h1 h2 h)
  · exact h
  · exact absurd (e2.trans e1.symm) (hn b a h2 h1 h)

end Go.Proofs.YtfmbddfenghnlaaGreatDoor.Tx
