/- Live trees: forms whose slices are all ours. -/
import Derived.Test.YtiiamkelehfnoaaGreatDoorGx
set_option linter.unusedVariables false
set_option linter.unusedSimpArgs false
namespace Go.Proofs.Shadow
open Go
theorem Fx.perm {tt σ:Sto} {bs:List (Nat × Ent)} {ms ms':List H2} (hF:Fx tt σ bs ms) (h:ms.Perm ms'):Fx tt σ bs ms' :=
 ⟨hF.sub,hF.var,hF.nd,fun m hm=>hF.own m (h.mem_iff.2 hm),(h.pairwise_iff (fun h=>h.symm)).1 hF.sep,fun m hm=>hF.wr m (h.mem_iff.2 hm)⟩
theorem Qa8 {E:Nat->Prop} {tt σ:Sto} {bs:List (Nat × Ent)} {ms:List H2} (hF:Fx tt σ bs ms) (j:Nat) {v y:AV} {e:TypeId} {sz by_:Nat} {xs ys:List (List AV)} {T:Nat->AV} {d:Tmp} {K:AS->Prop} (hj:ms[j]?=some ⟨v,e,sz,xs⟩) (hsz:0 < sz) (hby:0 < by_) (hy:RdL σ sz y ys) (hb:(xs.length+ys.length) * by_<=140737488355328)
  (h:∀v' ss',Fx tt ss' bs (ms.set j ⟨v',e,sz,xs++ys⟩)->K ⟨upd T d v',ss'⟩):JK (some (e,sz,by_)) v y ⟨T,σ⟩ (some d) (kp E σ K):=by
 refine ⟨xs,ys,hsz,hby,(hF.DL j hj).1,hy,hb,fun v' ss' hp=>?_⟩;have hv:=hp.var;exact ⟨v',ss',Wk1.refl _ _,Bs (FO.RC hv) (h v' ss' (hF.app j hj hp))⟩
end Go.Proofs.Shadow
