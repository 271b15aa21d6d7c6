/- Chapter 17: WindowDoes, out of what it calls. -/
import Derived.Test.YtipmodlmmadfbaaL5
import Derived.Test.YtipmodlmmadfbaaCodeB
import Derived.Test.YtipmodlmmadfbaaWEqStruct
set_option linter.unusedVariables false
set_option linter.unusedSimpArgs false
namespace Go.SX
open Go
/-- A row of the call's own from some element on, handed back, as a tree. -/
theorem own_tree_from {A : Nat → Prop} {m : Mem} {ρ' : Map} {w' : World} {b ty sz lo n : Nat} {es : List (List AV)} {v : Value} (hs : 0 < sz) (hM : MemOK A m ρ' w') (hb : look m b = some (.arr ty sz es)) (hv : VRel w' (OwnBy A ρ') ρ' (.own b sz lo n) v) (hn : lo + n = es.length) : TRel w' (OwnBy A fun _ => none) (.ro sz (es.drop lo)) v := by
  have hl : (es.drop lo).length = n := by simp; omega
  rcases hv.own_inv with ⟨rfl, _, h0⟩ | ⟨ad, rfl, h0, _⟩ | ⟨k, o, cap, hρ, rfl, hcap, hroom⟩
  · rw [List.eq_nil_of_length_eq_zero (hl.trans h0)]; exact .ronil
  · rw [List.eq_nil_of_length_eq_zero (hl.trans h0)]; exact .ronil
  · have hB := hM.mem b _ hb
    simp only [BRel, hρ] at hB
    obtain ⟨cur, hh, hlen, hsz, hcell⟩ := hB
    rw [← hl] at hcap ⊢
    refine TRel.row ⟨hs, fun e he => hlen e (List.mem_of_mem_drop he), ?_, fun i j x hx => ?_⟩ hcap
    · rintro (hO | ⟨_, _, hO⟩)
      · exact hM.far _ _ _ hρ hO
      · cases hO
    · have hx' : cellAt es (lo + i) j = some x := by simp only [cellAt] at hx ⊢; rwa [List.getElem?_drop] at hx
      obtain ⟨u, hu, h1, ht⟩ := hcell (lo + i) j x hx'
      refine ⟨u, ?_, h1, ht.sub (fun k hk => by rcases hk with hk | ⟨_, _, hk⟩; exact .inl hk; cases hk)⟩
      rw [add_none]
      simp only [World.cell?, hh]
      rw [if_neg (by simp), ← hu]
      congr 1; rw [Nat.add_mul]; omega
/-- A row that the print says is new, seen from some element on, as a tree. -/
theorem Flat.treeQ {α : Type} {d : Go.Proofs.YtipmodlmmadfbaaW.PrintWords.Kd α} {e : α → List Value} (hf : Flat d e) {w : World} {Own : Nat → Prop} {q base : Nat} {ok : Nat → Prop} {v : Value} {l : List α} (h : Go.Proofs.YtipmodlmmadfbaaW.PrintWords.Kd.Q d q w base ok v l) (ho : ∀ k, Own k → k < base) : TRel w Own (.ro d.sz (cellsOf e l)) v := by
  obtain ⟨A, c, rfl, _⟩ := Go.Proofs.YtipmodlmmadfbaaW.PrintWords.Kd.Q_slice h
  obtain ⟨_, hc, hC⟩ := Go.Proofs.YtipmodlmmadfbaaW.PrintWords.Kd.Q_reads' h
  refine hf.tree' hC hc (fun ad hA hO => ?_)
  subst hA
  have := Go.Proofs.YtipmodlmmadfbaaW.PrintWords.Kd.Q_base h ad.block rfl
  have := ho _ hO
  omega
end Go.SX
namespace Go.Proofs.Ytipmodlmmadfbaa.F
open Go Go.SX

theorem c3 : chkFn Try.prog 3 89 3 a3 a3R = true := by kernel_rfl
abbrev wr (W : Int × List Tl × Int) : AV := .tup [win W.1 W.2.1, iv W.2.2]
abbrev lk (r : Int × Int × ByteArray × Bool × Int) : AV := .tup [.agg [iv r.1, iv r.2.1, .lit (.string r.2.2.1)], bv r.2.2.2.1, iv r.2.2.2.2]
abbrev an (x : Int × Int × ByteArray) : AV := .agg [iv x.1, iv x.2.1, .lit (.string x.2.2)]

theorem same27 (a b : Int) (s : ByteArray) (w : World) : (binOp .eql 27 (.agg [Value.int .i64 a, .int .i64 b, .string s].toArray) (.agg [Value.int .i64 a, .int .i64 b, .string s].toArray)).run Try.prog w = .ok (.bool true) w := by
  have h : (Op.equalIn 10000 27 (.agg #[.int .i64 a, .int .i64 b, .string s]) (.agg #[.int .i64 a, .int .i64 b, .string s])).run Try.prog w = .ok ((a == a) && ((b == b) && (s.toList == s.toList))) w := by
    refine Go.Proofs.YtipmodlmmadfbaaW.PrintWords.eqA_of Try.underlying27 (by kernel_rfl) ?_
    refine Go.Proofs.YtipmodlmmadfbaaW.PrintWords.eqf_cons (by rfl) (by go_simp; rfl) (by go_simp; rfl) (by go_simp) ?_
    refine Go.Proofs.YtipmodlmmadfbaaW.PrintWords.eqf_cons (by rfl) (by go_simp; rfl) (by go_simp; rfl) (by go_simp) ?_
    exact Go.Proofs.YtipmodlmmadfbaaW.PrintWords.eqf_last (by rfl) (by go_simp; rfl) (by go_simp; rfl) (by go_simp)
  rw [run_eql_struct, h]
  simp

set_option maxHeartbeats 4000000 in
theorem d3 (low seq : Int) (l : List Tl) (x : Int × Int × ByteArray) (fw : Bool) (R : Int × Int × ByteArray × Bool × Int) (W : Int × List Tl × Int) (mb : Bool) (hA : DoesT 8 [] (bv true)) (hF : DoesT 9 [win low l] (bv fw))
    (h : fw = true → DoesT 10 [win low l, iv seq] (lk R) ∧ DoesT 11 [win low l, iv seq] (lk R) ∧ DoesT 12 [win low l, iv seq, an x] (wr W) ∧ DoesT 13 [win low l, iv seq, an x] (wr W) ∧ DoesT 14 [win W.1 W.2.1, win W.1 W.2.1] (bv true) ∧ DoesT 15 [win low l] (bv mb) ∧ DoesT 16 [win low l] (bv mb)) : DoesT 3 [win low l, iv seq, an x] (bv true) := by
  refine Does.of (nt := 89) (ac := a3) (rds := a3R) c3 (fun c hc => ?_)
  unfold a3
  apply J.seq; refine J.regE (by simp; rfl) ?_
  simp
  apply J.seq; apply J.reg
  refine runL_tree rfl hA (by simp) hc ?_
  simp
  repeat refine runL_step rfl (by simp; rfl) ?_
  simp [runL]
  apply J.seq; apply J.reg
  repeat refine runL_step rfl (by simp; rfl) ?_
  refine runL_tree rfl hF (by simp) hc ?_
  simp
  repeat refine runL_step rfl (by simp; rfl) ?_
  simp [runL]
  cases fw
  · apply J.seq; apply J.seq; apply J.reg
    repeat refine runL_step rfl (by simp; rfl) ?_
    simp [runL]
    apply J.cond; simp
    apply J.seq; refine J.regE (by simp; rfl) ?_
    simp
    apply J.ret
    refine ⟨by simp, rfl, _, [], by simp [a3R]; rfl, ?_⟩
    simp
  obtain ⟨h1, h2, h3, h4, h5, h6, h7⟩ := h rfl
  apply J.seq; apply J.seq; apply J.reg
  repeat refine runL_step rfl (by simp; rfl) ?_
  simp [runL]
  apply J.cond; simp
  apply J.skip; simp
  apply J.seq; apply J.reg
  repeat refine runL_step rfl (by simp; rfl) ?_
  refine runL_tree rfl h1 (by simp) hc ?_
  simp
  repeat refine runL_step rfl (by simp; rfl) ?_
  simp [runL]
  apply J.seq; apply J.reg
  repeat refine runL_step rfl (by simp; rfl) ?_
  refine runL_tree rfl h2 (by simp) hc ?_
  simp
  repeat refine runL_step rfl (by simp; rfl) ?_
  simp [runL]
  apply J.seq; apply J.reg
  repeat refine runL_step rfl (by simp; rfl) ?_
  refine runL_tree rfl h3 (by simp) hc ?_
  simp
  repeat refine runL_step rfl (by simp; rfl) ?_
  simp [runL]
  apply J.seq; apply J.reg
  repeat refine runL_step rfl (by simp; rfl) ?_
  refine runL_tree rfl h4 (by simp) hc ?_
  simp
  repeat refine runL_step rfl (by simp; rfl) ?_
  simp [runL]
  apply J.seq; apply J.reg
  repeat refine runL_step rfl (by simp; rfl) ?_
  refine runL_tree rfl h5 (by simp) hc ?_
  simp
  repeat refine runL_step rfl (by simp; rfl) ?_
  simp [runL]
  apply J.seq; apply J.draw; intro c' _
  repeat refine runP_step rfl (by simp; rfl) ?_
  refine runP_do rfl (runP_ext (extK_same (vs := [.int .i64 R.1, .int .i64 R.2.1, .string R.2.2.1]) rfl rfl (by kernel_rfl) (same27 _ _ _) ?_))
  simp
  repeat refine runP_step rfl (by simp; rfl) ?_
  refine runP_do rfl (runP_tree rfl h6 (by simp) rfl ?_)
  refine runP_do rfl (runP_tree rfl h7 (by simp) rfl ?_)
  simp
  repeat refine runP_step rfl (by simp; rfl) ?_
  simp [runP]
  apply J.ret
  refine ⟨by simp, rfl, _, [], by simp [a3R]; rfl, ?_⟩
  simp
end Go.Proofs.Ytipmodlmmadfbaa.F
