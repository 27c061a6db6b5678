/- An event that comes in. -/
import Derived.Test.YtchedinkkliogaaDoorWk102
set_option linter.all false
namespace Go.Proofs.YtchedinkkliogaaDoor.Tx
open Go.Lf Go.Lf.S Go.Lf.Duo

theorem four_of {t ta tb tc td : Nat} {gs : Array Field} (ht : P.underlying t = some (.struct gs)) (hg : gs.toList.map (·.type) = [ta, tb, tc, td]) {x : PV} {m : Nat} (h : HasT P t x m) :
    ∃ a b c d k1 k2 k3 k4, x = .agg (a.cells ++ (b.cells ++ (c.cells ++ d.cells))) ∧ HasT P ta a k1 ∧ HasT P tb b k2 ∧ HasT P tc c k3 ∧ HasT P td d k4 := by
  obtain ⟨xs, ms, rfl, h1, h2, _, hh⟩ := hasT_agg ht h
  have hs : gs.size = 4 := by
    have := congrArg List.length hg
    simp at this; omega
  rw [hs] at h1
  match xs, h1 with
  | [a, b, c, d], _ =>
    match ms, h2 with
    | [k1, k2, k3, k4], _ =>
      match gs, hg, hh with
      | ⟨[f1, f2, f3, f4]⟩, hg, hh =>
        simp only [List.map_cons, List.map_nil, List.cons.injEq, and_true] at hg
        obtain ⟨rfl, rfl, rfl, rfl⟩ := hg
        exact ⟨a, b, c, d, k1, k2, k3, k4, by simp, hh 0 f1 a k1 rfl rfl rfl, hh 1 f2 b k2 rfl rfl rfl, hh 2 f3 c k3 rfl rfl rfl, hh 3 f4 d k4 rfl rfl rfl⟩
theorem ev_of {t tI tB tS tV tN : Nat} {fs gs : Array Field} (ht : P.underlying t = some (.struct fs)) (hf : fs.toList.map (·.type) = [tI, tB, tS, tV]) (hI : P.underlying tI = some (.int .i64)) (hB : P.underlying tB = some .bool) (hS : P.underlying tS = some .string)
    (hV : P.underlying tV = some (.struct gs)) (hg : gs.toList.map (·.type) = [tI, tS, tN]) (hN : P.underlying tN = some (.int .i64)) {x : PV} {m : Nat} (h : HasT P t x m) : ∃ e : Ev, x = e.enc := by
  obtain ⟨a, b, c, d, k1, k2, k3, k4, rfl, h1, h2, h3, h4⟩ := four_of ht hf h
  obtain ⟨n1, rfl, _⟩ := hasT_int hI h1
  obtain ⟨b2, rfl⟩ := hasT_bool hB h2
  obtain ⟨s, e, _⟩ := hasT_str hS h3
  subst e
  obtain ⟨v, rfl, _⟩ := vl_of hV hg hI hS hN h4
  exact ⟨⟨n1, b2, s, v⟩, rfl⟩
end Go.Proofs.YtchedinkkliogaaDoor.Tx
