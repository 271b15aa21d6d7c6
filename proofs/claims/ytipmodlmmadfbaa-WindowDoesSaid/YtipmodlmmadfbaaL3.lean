/- Chapter 17: window.Put, out of what it calls. -/
import Derived.Test.YtipmodlmmadfbaaL2
import Derived.Test.YtipmodlmmadfbaaSxBr
set_option linter.unusedVariables false
set_option linter.unusedSimpArgs false
namespace Go.SX
open Go
section
variable {P : Program} {nt : Nat} {c : Ctx} {st : St}
theorem runP_or {X : List Nat} {i : Nat} {it : It} {p q : Plan} {k : St → Prop} (h1 : runP P c nt X (.alt i it p .done) st k) (h2 : runP P c nt X q st k) : runP P c nt X (.alt i it p q) st k := by
  refine ⟨h1.1, ?_⟩
  cases q <;> first | trivial | exact h2

/-- In a plan: the blocks 'bs' are handed over; what comes back holds no tree. -/
theorem runP_call {X : List Nat} {i : Nat} {p : Plan} {fs : Src} {xs : List Src} {d : Option Nat} {f : FuncId} {caps all : List AV} (bs fixed : List Nat) {post : AV → Mem → Prop} {k : St → Prop} (hf : st.src fs = some (.fn f caps)) (hx : (srcsOf st.src xs).map (· ++ caps) = some all)
    (hD : Does P f all (keepS bs st.mem) fixed post) (hr : refsInL (fun b => b ∈ bs) all) (hm : ∀ b ∈ bs, ∀ blk, look st.mem b = some blk → blk.refs (fun b => b ∈ bs)) (hfx : ∀ b ∈ st.fixed, b ∈ bs → b ∈ fixed) (hX : ∀ b ∈ bs, b ∈ X)
    (hk : ∀ rv m1, post rv m1 → (∀ p ∈ m1, p.1 ∈ X ∧ (p.1 ∈ bs ∨ look st.mem p.1 = none ∧ p.1 ∉ st.fixed) ∧ noTreeB p.2 = true) ∧ noTree rv = true ∧ runP P c nt X p ((callSt st bs fixed m1).put? d rv) k) : runP P c nt X (.alt i ⟨d, none, .callv fs xs⟩ p .done) st k :=
  ⟨callK_call (X := fun b => b ∈ X) hf hx hD hr hm hfx hX (fun rv m1 hp => by
    obtain ⟨h1, h2, h3⟩ := hk rv m1 hp
    exact ⟨fun b blk hb => ⟨(h1 _ (look_mem hb)).1, (h1 _ (look_mem hb)).2.1⟩, .inr ⟨h2, fun b blk hb => (h1 _ (look_mem hb)).2.2⟩, h3⟩), trivial⟩
end
theorem Does.swap {P : Program} {f : FuncId} {args : List AV} {m m' : Mem} {fx : List Nat} {post : AV → Mem → Prop} (h : Does P f args m fx post) (e : ∀ b, look m' b = look m b) : Does P f args m' fx post := by
  refine ⟨h.1, fun A ρ w vs hM hlen hv => h.2 A ρ w vs ⟨fun b blk hl => hM.mem b blk (by rw [e]; exact hl), fun b k o hb => ?_, hM.lt, hM.inj, hM.far, hM.alt⟩ hlen hv⟩
  obtain ⟨blk, hl⟩ := hM.dom b k o hb
  exact ⟨blk, by rw [← e]; exact hl⟩
end Go.SX
namespace Go.Proofs.Ytipmodlmmadfbaa.F
open Go Go.SX
theorem noTree_tls (ty sz : Nat) (l : List Tl) : noTreeB (.arr ty sz (tls l)) = true := by
  simp [noTreeB, tls, noTreeL, noTree]
end Go.Proofs.Ytipmodlmmadfbaa.F
