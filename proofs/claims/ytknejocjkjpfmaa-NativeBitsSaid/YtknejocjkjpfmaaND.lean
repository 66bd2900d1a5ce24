/- Part ND of the proof: own text. -/
import Derived.Test.YtknejocjkjpfmaaN2
set_option linter.all false
set_option maxRecDepth 100000
namespace Go.Proofs.AMT
open Go.AM
noncomputable def awakeR : Option (Prop × Res) := (lk (GamN ty 1000 bodies extB 25) 8).bind fun s => s.2 []
theorem awake_run : awakeR = some (True, .one (.v (.bool true))) := by kernel_rfl
theorem sound_8 : Sound Try.prog 8 .body sAwake := by
  have hg := (GamN_ok (fuel := 1000) (P := Try.prog) (by kernel_rfl) tysOk extB_ok extB_free bodies_ok bodies_some 25).1
  have h := awake_run
  unfold awakeR at h
  obtain ⟨⟨fk, spec⟩, h1, h2⟩ := Option.bind_eq_some_iff.1 h
  have hs := hg 8 fk spec h1
  have hfk : fk = .body := by
    have : (lk (GamN ty 1000 bodies extB 25) 8).map (·.1) = some .body := by kernel_rfl
    rw [h1] at this
    exact Option.some.inj this
  subst hfk
  refine sound_weaken hs fun ds p r h3 h4 => ?_
  unfold sAwake at h3
  split at h3
  · cases h3; exact ⟨True, h2, trivial⟩
  · cases h3
end Go.Proofs.AMT
