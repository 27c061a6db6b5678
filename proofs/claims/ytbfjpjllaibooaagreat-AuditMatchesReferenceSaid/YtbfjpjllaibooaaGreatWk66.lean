/- Contracts: right nodes of processes (1): values, names, rules. -/
import Derived.Test.YtbfjpjllaibooaaGreatWk65
set_option linter.all false
namespace Go.Proofs.YtbfjpjllaibooaaGreat.Tx
open Go.Lf Go.Lf.S Go.Lf.Duo
set_option maxRecDepth 100000

abbrev eB : ByteArray := ⟨#[]⟩
def valP (v : Vl) : Prop := (v.kind = 1 ∧ nameP v.name ∧ v.n = 0) ∨ (v.kind = 2 ∧ v.name = eB) ∨ (v.kind = 3 ∧ v.name = eB ∧ (v.n = 0 ∨ v.n = 1))
theorem okx_ref03_name (s : ByteArray) (hs : s.size ≤ maxLen) : Ok P F.ref03_name [.str s] (.bool (pb (nameP s))) :=
  k_ref03_name _ _ rfl (d_call (okx_ref01_Name s hs) (d_ret rfl))
theorem okx_ref03_value (v : Vl) (hs : v.name.size ≤ maxLen) : Ok P F.ref03_value [v.enc] (.bool (pb (valP v))) := by
  obtain ⟨k, nm, m⟩ := v
  refine tx_pb k_ref03_value rfl (by simp [t_ref03_value, T.dt]) ?_
  have hN := okx_ref03_name nm hs
  have g2 : ∀ (a b : T PV), (k = 2 → IsB (nm = eB) (.bool (decide (nm = eB))) → True) → True := fun _ _ _ => trivial
  refine d_l (.agg [i k, .str nm, i m]) rfl fun _ => d_l _ rfl fun _ => d_dec (p := k = 1) (fun h1 => ?_) fun h1 => ?_
  · subst h1
    refine d_call hN (d_ite (fun h => d_l _ rfl fun _ => d_dec (p := m = 0) (fun h4 => d_ret (isB_t (by have := pb_iff.1 h; simp [valP, this, h4]))) fun h4 => ?_) fun h => ?_)
    · refine d_l _ rfl fun _ => d_dec (p := (1 : Int) = 2) (fun h => absurd h (by decide)) fun _ => d_l _ rfl fun _ => d_dec (p := (1 : Int) = 3) (fun h => absurd h (by decide)) fun _ => d_ret (isB_f (by simp [valP, h4]))
    · have := pb_false.1 h
      refine d_l _ rfl fun _ => d_dec (p := (1 : Int) = 2) (fun h => absurd h (by decide)) fun _ => d_l _ rfl fun _ => d_dec (p := (1 : Int) = 3) (fun h => absurd h (by decide)) fun _ => d_ret (isB_f (by simp [valP, this]))
  · refine d_l _ rfl fun _ => d_dec (p := k = 2) (fun h2 => ?_) fun h2 => d_l _ rfl fun _ => d_dec (p := k = 3) (fun h3 => ?_) fun h3 => d_ret (isB_f (by simp [valP, h1, h2, h3]))
    · subst h2
      refine d_l _ rfl fun _ => d_dec (p := nm = eB) (fun h => d_ret (isB_t (by simp [valP, h]))) fun h => d_l _ rfl fun _ => d_dec (p := (2 : Int) = 3) (fun h => absurd h (by decide)) fun _ => d_ret (isB_f (by simp [valP, h]))
    · refine d_l _ rfl fun _ => d_dec (p := nm = eB) (fun h => d_l _ rfl fun _ => d_dec (p := m = 0) (fun h4 => d_ret (isB_t (by simp [valP, h3, h, h4]))) fun h4 => d_l _ rfl fun _ => d_ret (isB_d (p := m = 1) (by simp [valP, h3, h, h4]))) fun h => d_ret (isB_f (by simp [valP, h3, h]))

def zeroTy : Ty := .mk 0 0 eB 0 [] []
theorem sb_pt (p : Pr) : sb 5 6 p.enc = p.t.enc := by
  obtain ⟨k, c, v, ls, ar, t, ks⟩ := p
  rw [Ty.enc_cs, Pr.enc_mk]; rfl
theorem okx_plain (p : Pr) (ht : Lim p.t) : Ok P F.ref03_plain [p.enc] (.bool (pb (p.t = zeroTy))) := by
  have h3 := okx_ref02_Same p.t zeroTy ht
  rw [← sb_pt p] at h3
  exact k_ref03_plain _ _ rfl (d_l p.enc (e_okc (Pr.okc_enc p)) fun _ => d_call h3 (d_ret rfl))

/-! the number of kids -/

end Go.Proofs.YtbfjpjllaibooaaGreat.Tx
