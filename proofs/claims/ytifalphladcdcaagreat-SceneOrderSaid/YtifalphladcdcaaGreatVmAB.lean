/- The machine over plain values: each operation but calls. No condition beyond those stated. -/
import Derived.Test.YtifalphladcdcaaGreatVmAA
set_option linter.unusedVariables false
set_option linter.unusedSimpArgs false
namespace Go.VM
section
variable {P : Program} {D : Dir} {Γ : Nat → Prop} {σ : Store} {w : World}

theorem binOp_ok {X : Cx} (hX : X.OK P) (hs : SR D Γ σ w.heap) {T : List V} {a : Act} (hT : TR D Γ w.heap T a.tmps) {nid : Nat} {o : Oper} {op : BinOp} {t t' : Nat} {x y : Operand} (ho : o.op = .binOp op t x y t') : OpOK P D Γ σ w X T a nid o := by
  intro v ws hr
  simp only [op1, ho] at hr
  have run1 : ∀ {u : Value}, (do eqGuard op t x y (a.eval x) (a.eval y); binOp op t (a.eval x) (a.eval y) : Sem Value).run P w = .ok u w → Gives P a o w u w := by
    intro u h
    refine ⟨Kept.refl w, .inl ?_⟩
    simp only [execOp, ho, Sem.run_bind] at h ⊢
    rw [h]; rfl
  split at hr
  · rename_i u hu
    cases run_done hr
    obtain ⟨y', h1, h2⟩ := bin_ok hu (t := t) (hT.ev x) (hT.ev y) x y w
    exact ⟨y', w, run1 h1, Post.still hs h2⟩
  · obtain ⟨u, h1, h2⟩ := boEq_ok hX hs (hT.ev x) (hT.ev y) x y (fun _ _ => trivial) hr
    exact ⟨u, w, run1 h1, h2⟩

theorem op1_ok {X : Cx} (hX : X.OK P) (hs : SR D Γ σ w.heap) {T : List V} {a : Act} (hT : TR D Γ w.heap T a.tmps) (nid : Nat) (o : Oper) : OpOK P D Γ σ w X T a nid o := by
  cases ho : o.op with
  | move x => exact move_ok hs hT (.inl ho)
  | assign x => exact move_ok hs hT (.inr ho)
  | pick c x y => exact pick_ok hs hT ho
  | alloc t => exact alloc_ok hX hs ho
  | box t x => exact box_ok hs hT ho
  | build t ps => exact build_ok hX hs hT ho
  | buildSlice t n ps => exact buildSlice_ok hX hs hT ho
  | load t x => exact fun hr => load_ok hX hs hT ho hr
  | store t x y => exact fun hr => store_ok hX hs hT ho hr
  | nilCheck x => exact nilCheck_ok hs hT ho
  | binOp op t x y t' => exact binOp_ok hX hs hT ho
  | unOp op t x => exact unOp_ok hs hT ho
  | convert s d x => exact convert_ok hX hs hT ho
  | makeFunc f first captured =>
    cases f with
    | func f => exact makeFunc_ok hs hT ho
    | _ => intro v ws hr; simp only [op1, ho] at hr; exact (run_fail hr).elim
  | makeSlice t l c => exact makeSlice_ok hX hs hT ho
  | slice t x lo hi mx =>
    cases mx with
    | none => exact slice_ok hX hs hT ho
    | some m => intro v ws hr; simp only [op1, ho] at hr; exact (run_fail hr).elim
  | fieldAddr s x f => exact fieldAddr_ok hX hs hT ho
  | field s x f => exact field_ok hX hs hT ho
  | indexAddr t x i => exact indexAddr_ok hX hs hT ho
  | index t x i => exact index_ok hX hs hT ho
  | extract x i => exact extract_ok hs hT ho
  | call c =>
    obtain ⟨cal, args, tys⟩ := c
    cases cal with
    | builtin b =>
      cases b with
      | len => exact len_ok hX hs hT ho
      | append => exact append_ok hX hs hT ho
      | min => exact minmax_ok hs hT (.inl ho)
      | max => exact minmax_ok hs hT (.inr ho)
      | _ => intro v ws hr; simp only [op1, ho] at hr; exact (run_fail hr).elim
    | _ => intro v ws hr; simp only [op1, ho] at hr; exact (run_fail hr).elim
  | _ => intro v ws hr; simp only [op1, ho] at hr; exact (run_fail hr).elim
end
end Go.VM
