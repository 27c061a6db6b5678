/- The law ProctreeSizes. -/
import Derived.Test.YtjekkidhbnkiaaaDoorDAwake03
set_option linter.all false
namespace Go.Proofs.YtjekkidhbnkiaaaDoor.Tx
open Go.Lf Go.Lf.S Go.Lf.Duo
set_option maxRecDepth 100000

theorem wgt_def (k : Int) (c v : ByteArray) (ls : List ByteArray) (ar : List Vl) (t : Ty) (ks : List Pr) : wgt (.mk k c v ls ar t ks) = wgts ks + 1 + (if k = 6 then t.sz else 0) := by rw [wgt]
theorem ok_Total_main (p : Pr) (hz : p.sz ≤ 1048576) (ht : TB 1048576 p) : Ok P F.proctree_Total [(Pg.mk [] p).enc] (i (wgt p)) := by
  have hw := ok_proctree_weight p hz ht
  obtain ⟨k, ch, v, ls, ar, t, ks⟩ := p
  have e : (Pg.mk [] (.mk k ch v ls ar t ks)).enc = .agg (.sl [] :: [i k, .str ch, .str v, .sl (ls.map .str), .sl (ar.map Vl.enc), i t.kind, i t.prio, .str t.name, i t.shift, .sl (t.labels.map .str), .sl (t.kids.map Ty.enc), .sl (ks.map Pr.enc)]) := by
    simp only [Pg.enc, Pr.enc_mk]; rfl
  rw [e]
  rw [Pr.enc_mk] at hw
  refine k_proctree_Total _ _ rfl (d_l (.agg (.sl [] :: [i k, .str ch, .str v, .sl (ls.map .str), .sl (ar.map Vl.enc), i t.kind, i t.prio, .str t.name, i t.shift, .sl (t.labels.map .str), .sl (t.kids.map Ty.enc), .sl (ks.map Pr.enc)])) rfl fun _ => d_call hw (d_l (i 0) rfl fun _ => ?_))
  exact den_rounds (fun _ => [i 0, i (wgt (.mk k ch v ls ar t ks))]) 0 rfl (fun j hj => absurd hj (Nat.not_lt_zero j)) (d_l (.bool (decide ((0 : Int) < 0))) rfl fun _ => d_dec (fun h => absurd h (by decide)) fun _ => d_ret rfl)

theorem ok_law03_ProctreeSizes (p q : Pr) (hp : PLim p) (hq : PLim q) : Ok P F.law03_ProctreeSizes [p.enc, q.enc] (.bool true) := by
  obtain ⟨rp, kp, kp2⟩ := ok_ref03_Few p hp 500 (by omega) (by omega)
  obtain ⟨rq, kq, kq2⟩ := ok_ref03_Few q hq 500 (by omega) (by omega)
  refine k_law03_ProctreeSizes _ _ rfl (d_l p.enc (e_okc (Pr.okc_enc p)) fun _ => d_l q.enc (e_okc (Pr.okc_enc q)) fun _ => d_call awake03 (d_l (.bool false) rfl fun _ => d_false ?_))
  refine d_call kp (d_l (.bool !rp) rfl fun _ => d_ite (fun _ => d_call awake03 (d_ret rfl)) fun h => ?_)
  obtain ⟨zp, _, tp⟩ := kp2 (by simpa using h)
  refine d_call kq (d_l (.bool !rq) rfl fun _ => d_ite (fun _ => d_call awake03 (d_ret rfl)) fun h => ?_)
  obtain ⟨zq, _, tq⟩ := kq2 (by simpa using h)
  have t0 : TB 1048576 p := tp.weak (by omega)
  have t1 : TB 1048576 q := tq.weak (by omega)
  let z : Ty := .mk 0 0 noB 0 [] []
  have zsz : z.sz ≤ 1048576 := by decide
  let both : Pr := .mk 7 noB noB [] [] z [p, q]
  let front : Pr := .mk 3 ⟨#[97]⟩ ⟨#[120]⟩ [] [] z [p]
  have eb : both.sz = p.sz + q.sz + 1 := by simp [both, Pr.sz, Pr.szs]
  have ef : front.sz = p.sz + 1 := by simp [front, Pr.sz, Pr.szs]
  have tb : TB 1048576 both := .mk _ zsz fun k hk => by
    rcases List.mem_cons.1 hk with rfl | hk
    · exact t0
    · rw [List.mem_singleton.1 hk]; exact t1
  have hd := pdep_le p
  have hd2 := pdep_le q
  have tt : ∀ {p : Prop} [Decidable p], p → (some (PV.bool (decide p)) : Option PV) = some (.bool true) := fun h => by rw [decide_eq_true h]
  have b1 := ok_proctree_Size both (by omega)
  have b2 := ok_proctree_Depth both (by omega)
  have b3 := ok_Total_main both (by omega) tb
  have f1 := ok_proctree_Size front (by omega)
  have f2 := ok_proctree_Depth front (by omega)
  have p1 := ok_proctree_Size p (by omega)
  have p2 := ok_proctree_Depth p (by omega)
  have p3 := ok_Total_main p (by omega) t0
  have q1 := ok_proctree_Size q (by omega)
  have q2 := ok_proctree_Depth q (by omega)
  have q3 := ok_Total_main q (by omega) t1
  have w1 := wgt_le p t0
  have w2 := wgt_le q t1
  have eE : both.enc = .agg [(i 7), (.str ⟨#[]⟩), (.str ⟨#[]⟩), (.sl []), (.sl []), (i 0), (i 0), (.str ⟨#[]⟩), (i 0), (.sl []), (.sl []), .sl [p.enc, q.enc]] := by
    show Pr.enc (.mk 7 noB noB [] [] z [p, q]) = _
    rw [Pr.enc_mk]; rfl
  have fE : front.enc = .agg [(i 3), (.str ⟨#[97]⟩), (.str ⟨#[120]⟩), (.sl []), (.sl []), (i 0), (i 0), (.str ⟨#[]⟩), (i 0), (.sl []), (.sl []), .sl [p.enc]] := by
    show Pr.enc (.mk 3 ⟨#[97]⟩ ⟨#[120]⟩ [] [] z [p]) = _
    rw [Pr.enc_mk]; rfl
  have eT : (Pg.mk [] both).enc = .agg (.sl [] :: [(i 7), (.str ⟨#[]⟩), (.str ⟨#[]⟩), (.sl []), (.sl []), (i 0), (i 0), (.str ⟨#[]⟩), (i 0), (.sl []), (.sl []), .sl [p.enc, q.enc]]) := by
    simp only [Pg.enc, eE]; rfl
  have ex : ∀ r : Pr, PV.agg [(.sl []), (c 0 r.enc), (c 1 r.enc), (c 2 r.enc), (c 3 r.enc), (c 4 r.enc), (c 5 r.enc), (c 6 r.enc), (c 7 r.enc), (c 8 r.enc), (c 9 r.enc), (c 10 r.enc), (c 11 r.enc)] = (Pg.mk [] r).enc := fun r => by
    obtain ⟨k, ch, v, ls, ar, t, ks⟩ := r
    simp only [Pg.enc, Pr.enc_mk]; rfl
  rw [eE] at b1 b2
  rw [fE] at f1 f2
  rw [eT] at b3
  have okcs : ∀ r : Pr, (Prim.okcs [(12, true)]).ev [r.enc] = some .nilI := fun r => by
    show (if [((12, true) : Nat × Bool)].length = [r.enc].length ∧ ([((12, true) : Nat × Bool)].zip [r.enc]).all (fun p => p.2.okc p.1.1 p.1.2) = true then some PV.nilI else none) = _
    rw [if_pos ⟨rfl, by simp [Pr.okc_enc]⟩]
  refine d_l (.sl [p.enc, q.enc]) (e_lst (fun x hx => ?_)) fun _ => d_l (.sl [p.enc]) (e_lst (fun x hx => ?_)) fun _ => ?_
  · simp only [List.mem_cons, List.not_mem_nil, or_false] at hx
    rcases hx with rfl | rfl <;> exact Pr.okc_enc _
  · simp only [List.mem_cons, List.not_mem_nil, or_false] at hx
    subst hx; exact Pr.okc_enc _
  refine d_call b1 (d_call p1 (d_call q1 (d_l _ (e_add (by omega) (by omega)) fun _ => d_l _ (e_add (by omega) (by omega)) fun _ => d_l (.bool true) (tt (by omega)) fun _ => d_true ?_)))
  have db : pdep both = max (pdep p) (pdep q) + 1 := by simp [both, pdep, pdeps]
  have df : pdep front = pdep p + 1 := by simp [front, pdep, pdeps]
  refine d_call b2 (d_call p2 (d_call q2 (d_l _ e_mxN fun _ => d_l _ (e_add (by omega) (by omega)) fun _ => d_l (.bool true) (tt (by omega)) fun _ => d_true ?_)))
  refine d_call f1 (d_call p1 (d_l _ (e_add (by omega) (by omega)) fun _ => d_l (.bool true) (tt (by omega)) fun _ => d_true ?_))
  refine d_call f2 (d_call p2 (d_l _ (e_add (by omega) (by omega)) fun _ => d_l (.bool true) (tt (by omega)) fun _ => d_true ?_))
  have wb : wgt both = wgt p + wgt q + 1 := by simp [both, wgt, wgts]
  rw [← ex p] at p3
  rw [← ex q] at q3
  exact d_call b3 (d_l .nilI (okcs p) fun _ => d_call p3 (d_l .nilI (okcs q) fun _ => d_call q3 (d_l _ (e_add (by omega) (by omega)) fun _ => d_l _ (e_add (by omega) (by omega)) fun _ => d_l (.bool true) (tt (by omega)) fun _ => d_ret rfl)))
end Go.Proofs.YtjekkidhbnkiaaaDoor.Tx
