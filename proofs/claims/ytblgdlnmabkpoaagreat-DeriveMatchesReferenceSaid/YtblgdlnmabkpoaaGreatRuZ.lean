import Derived.Test.YtblgdlnmabkpoaaGreatRuI
import Derived.Test.YtblgdlnmabkpoaaGreatRuD
import Derived.Test.YtblgdlnmabkpoaaGreatGeT
import Derived.Test.YtblgdlnmabkpoaaGreatBoQ
/- What rules make of a list, in plain words. -/
set_option linter.unusedSimpArgs false
set_option linter.unusedVariables false
namespace Go.Proofs.YtblgdlnmabkpoaaGreat
open Go.RowKit Go.Sort
theorem list_ids {fs:List FV}(h:FList fs=true){k:Nat}(hk:k<fs.length):1≤(fAt fs k).id∧(fAt fs k).id≤100000:=by
 have:=list_valid h _ (fAt_mem hk)
 unfold FValid baseOk at this
 rw[Bool.and_eq_true,decide_eq_true_eq] at this
 exact this.1.1
/-- What a rule keeps of a feature. -/
def Kin (fs:List FV)(g:FV):Prop:=∃f∈fs,f.id=g.id∧f.kind=g.kind∧f.sym=g.sym
theorem Kin.trans {fs gs:List FV}{g:FV}(h:Kin gs g)(k:∀g∈gs,Kin fs g):Kin fs g:=by
 obtain⟨f,hf,a,b,c⟩:=h
 obtain⟨f',hf',a',b',c'⟩:=k f hf
 exact⟨f',hf',a'.trans a,b'.trans b,c'.trans c⟩
theorem met_bare (f g:FV):metB f g.bare=metB f g:=rfl
theorem run_ok {rs:List Ru}{fs:List FV}(h:(runOf rs fs).2=0):rsOk rs=true∧FList fs=true:=by
 unfold runOf at h
 cases hc:rsOk rs&&FList fs with
 | true=>simpa using hc
 | false=>rw[hc] at h;simp at h
theorem run_le {rs:List Ru}{fs:List FV}:(runOf rs fs).1.length≤300:=by
 unfold runOf
 split
 ·rename_i h
  simp at h
  exact run_len (list_len h.2) _ (Nat.le_refl _)
 ·simp
end Go.Proofs.YtblgdlnmabkpoaaGreat

/- What a rule makes of a list stands for it, in plain words. The law DeriveSteps in plain words: what Make hands back is what a run hands back; runs, one behind the other. -/
namespace Go.Proofs.YtblgdlnmabkpoaaGreat
/-- One disc has another one, at every scale. -/
def InD (f g:FV):Prop:=∀d z,0<d→Dsk (f.x,f.y) f.rad d z→Dsk (g.x,g.y) g.rad d z
theorem InD.refl (f:FV):InD f f:=fun _ _ _ h=>h
theorem InD.trans {f g h:FV}(h1:InD f g)(h2:InD g h):InD f h:=fun d z hd hz=>h2 d z hd (h1 d z hd hz)
end Go.Proofs.YtblgdlnmabkpoaaGreat

