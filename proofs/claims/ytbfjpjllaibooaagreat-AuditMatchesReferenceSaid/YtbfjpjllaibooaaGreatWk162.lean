/- Law 27, AuditMatchesReference. -/
import Derived.Test.YtbfjpjllaibooaaGreatWk160
import Derived.Test.YtbfjpjllaibooaaGreatWk161
set_option linter.all false
namespace Go.Proofs.YtbfjpjllaibooaaGreat.Tx
open Go.Lf Go.Lf.S Go.Lf.Duo
set_option maxRecDepth 100000

theorem ok_law27_AuditMatchesReference (p : Pg) (q : Pr) (hp : GLim p) (hq : PLim q) : Ok P F.law27_AuditMatchesReference [p.enc, q.enc] (.bool true) := by
  obtain ⟨b, hb, hb2⟩ := ok_Right27 p hp 100 (by omega)
  obtain ⟨b2, hf, hf2⟩ := ok_ref03_Few q hq 300 (by omega) (by omega)
  refine k_law27_AuditMatchesReference _ _ rfl (d_l _ (e_okc (Pg.okc_enc p)) fun _ => d_l _ (e_okc (Pr.okc_enc q)) fun _ => d_call awake27 (d_l (.bool false) rfl fun _ => d_false (d_call hb (d_l (.bool !b) rfl fun _ => d_ite (fun _ => d_call awake27 (d_ret rfl)) fun h => d_call hf (d_l (.bool !b2) rfl fun _ => d_ite (fun _ => d_call awake27 (d_ret rfl)) fun h2 => ?_)))))
  obtain ⟨h1, _, h3⟩ := hb2 (by simpa using h)
  have hqz := (hf2 (by simpa using h2)).1
  have hn := (D06_iff.1 h3.2.1).1
  have hB := pb_of27 (by omega) h1
  have hg := gln_of (by omega) h1 h3
  have hdl := h1.len
  have hC := ok_CountR q true (by omega)
  have hC' : Ok P F.ref27_Count [q.enc, .bool true] (tot q).enc := hC
  have tx : ∀ l : List ByteArray, l.length ≤ 20 → Ok P F.ref03_Texts [.sl (l.map .str), .sl (l.map .str)] (.bool true) := fun l hl => by
    have := okx_ref03_Texts (l := l) (r := l) (by omega)
    rwa [pb_iff.2 rfl] at this
  have ln : ∀ (f : Df → Bool), ((p.defs.filter f).map Df.name).length ≤ 20 := fun f => by
    rw [List.length_map]
    exact Nat.le_trans (List.length_filter_le _ _) hdl
  have s := okx_ref03_SameProgram (prunP p) (prunP p) (glim_prun hp)
  rw [pb_iff.2 rfl] at s
  have hT := ok_Count q (by omega)
  refine d_call hC' (d_l _ (e_okc (To.okc_enc _)) fun _ => d_call (ok_Reached27 p hB) (d_call (ok_Reached_t p (by omega) h1 hn) (d_call (tx _ (ln _)) (d_true (d_call (ok_Unused27 p hB) (d_call (ok_Reached_f p (by omega) h1 hn) (d_call (tx _ (ln _)) (d_true (d_call (ok_Loops27 p hB) (d_call (ok_LoopsR p (by omega) h1 hn) (d_call (tx _ (ln _)) (d_true (d_call (ok_Prune27 p hB hg) (d_call (ok_PruneR p (by omega) h1 hn) (d_call s (d_true (d_call hT (d_l .nilI rfl fun _ => d_l (.bool true) ?_ fun _ => d_ret rfl))))))))))))))))))
  obtain ⟨a, b, c', d⟩ := tot q
  simp [Prim.ev, To.enc, Go.Lf.S.c, PV.cells, PV.sameK, PV.same1, i]
end Go.Proofs.YtbfjpjllaibooaaGreat.Tx
