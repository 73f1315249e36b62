/- The reference implementation of package feature: For, that a feature stands for another one. -/
import Derived.Test.YtblgdlnmabkpoaaGreatRkY
import Derived.Test.YtblgdlnmabkpoaaGreatSgX
set_option linter.unusedSimpArgs false
set_option linter.unusedVariables false
set_option maxHeartbeats 4000000
set_option maxRecDepth 100000
namespace Go.Proofs.YtblgdlnmabkpoaaGreat
open Go.RowKit Go.Sort
attribute [local go_sem] Steady steadyUpon
attribute [local go_sem ↓] hs_dr lt_add_r lt_add_r2 lt_add_r3 lt_add_r4 lt_add_r5 lt_add_r6
attribute [local go_sem] cell?_gd frozen?_gd setCell_gd size_grow tape_grow cell?_grow' frozen?_grow' setCell_grow' grow_grow grow_dr grow_drew dr_dr dr_drew drew_dr dr_alloc dr_setCell dr_cell dr_frozen dr_tape dr_drawn
attribute [local irreducible] wpSteady
theorem s5Safer_v (sa sb:List Sec)(A A':Option Addr)(c c':Nat)(r:Bool×Int)(w:World)(hra:Rd w w.heap.size 6 A (sa.map Sec.cells))(hrb:Rd w w.heap.size 6 A' (sb.map Sec.cells))(hl:sa.length≤c)(hl':sb.length≤c')(hc:sa.length≤100000000000000)(hc':sb.length≤100000000000000)(h:saferOf sa sb=r) :
  Calls Tryz.prog 60 #[.slice A sa.length c,.slice A' sb.length c'] w (Ret w (.tuple #[.bool r.1,.int .i64 r.2])):=by
 have:=rSafer_any sa sb A A' c c' w hra hrb hl hl' hc hc'
 rwa [h] at this
theorem light_secs {f:FV}(h:FValid f=true)(hk:f.kind=4):LValid f.secs=true:=by
 unfold FValid at h
 rw[hk] at h
 simp[isDisc,lightOk] at h
 exact h.2.2.1
theorem safer_ok {f g:FV}(hf:FValid f=true)(hg:FValid g=true)(hk:f.kind=4)(hk':g.kind=4):(saferOf f.secs g.secs).2=0:=by
 have h1:=light_secs hf hk
 have h2:=light_secs hg hk'
 have h:=holdsOf_err g.secs f.secs 1
 unfold saferOf
 rcases h with⟨h,_⟩|h
 ·simp[h]
 ·unfold holdsOf at h
  rw[if_pos (by rw[h1,h2];rfl)] at h
  injection h with _ h
  cases h
theorem for_light (f g:FV)(r:Bool)(w:World)(hf:f.rd w w.heap.size)(hg:g.rd w w.heap.size)(vf:FValid f=true)(vg:FValid g=true)(hk:f.kind=4)(h:standL f g=r) :
  Calls Tryz.prog 37 #[f.val,g.val] w (Ret w (.bool r)):=by
 have hm:=hmix
 have he0:g.kind=4→(saferOf f.secs g.secs).2=0:=fun h=>safer_ok vf vg hk h
 obtain⟨⟨n,e⟩,hn⟩:∃u,saferOf f.secs g.secs=u:=⟨_,rfl⟩
 have k3:=hide (fun W (h:Grew w W)=>s5Safer_v f.secs g.secs f.sA g.sA f.sc g.sc (n,e) W ((hf.up h).secs) ((hg.up h).secs) hf.lc hg.lc hf.ls hg.ls hn)
 unfold standL at h
 rw[hn] at h he0
 dsimp only at h k3 he0
 clear hf hg vf vg hn
 obtain⟨fid,fk,fx,fy,fr,faA,fac,fa,fd,fs,fsA,fsc,fss⟩:=f
 obtain⟨gid,gk,gx,gy,gr,gaA,gac,ga,gd,gs,gsA,gsc,gss⟩:=g
 unfold FV.val at *
 dsimp only at *
 subst hk
 generalize fss.length=nf at *
 generalize gss.length=ng at *
 have hcase:gk≠4∨(gk=4∧gx≠fx)∨(gk=4∧gx=fx∧gy≠fy)∨(gk=4∧gx=fx∧gy=fy):=by
  by_cases h1:gk=4<;>by_cases h2:gx=fx<;>by_cases h3:gy=fy<;>simp[h1,h2,h3]
 rcases hcase with h1|⟨rfl,h2⟩|⟨rfl,rfl,h3⟩|⟨rfl,rfl,rfl⟩
 ·obtain rfl:r=false:=by rw[←h,decide_eq_false h1];rfl
  clear h he0
  have n1:(gk==4)=false:=by simpa using h1
  go_enter Tryz.func37,Tryz.ntmps37
  go_wp2_with (go_at_call 60;with_reducible refine crv (k3.out _ gw) fun _ _=>?_;dsimp only)
  go_ret
  exact Ret.mk' rfl gw
 ·obtain rfl:r=false:=by rw[←h,decide_eq_false (show ¬ (gx=fx∧gy=fy) from fun e=>h2 e.1)];simp
  clear h he0
  go_enter Tryz.func37,Tryz.ntmps37
  go_wp2_with (go_at_call 60;with_reducible refine crv (k3.out _ gw) fun _ _=>?_;dsimp only)
  go_ret
  exact Ret.mk' rfl gw
 ·obtain rfl:r=false:=by rw[←h,decide_eq_false (show ¬ (gx=gx∧gy=fy) from fun e=>h3 e.2)];simp
  clear h he0
  go_enter Tryz.func37,Tryz.ntmps37
  go_wp2_with (go_at_call 60;with_reducible refine crv (k3.out _ gw) fun _ _=>?_;dsimp only)
  go_ret
  exact Ret.mk' rfl gw
 ·obtain rfl:e=0:=he0 rfl
  obtain rfl:r = !n:=by rw[←h];simp
  clear h he0
  cases n
  all_goals
   go_enter Tryz.func37,Tryz.ntmps37
   go_wp2_with (go_at_call 60;with_reducible refine crv (k3.out _ gw) fun _ _=>?_;dsimp only)
   go_ret
   exact Ret.mk' rfl gw
theorem for_shape (f g:FV)(w:World)(hf:f.rd w w.heap.size)(hg:g.rd w w.heap.size)(vf:FValid f=true)(vg:FValid g=true)(hk:f.kind≠4) :
  Calls Tryz.prog 37 #[f.val,g.val] w (Ret w (.bool (decide (g.dep≤f.dep)&&shHolds g f))):=by
 have hm:=hmix
 obtain⟨s,hs⟩:∃s,shHolds g f=s:=⟨_,rfl⟩
 have kc:=hide (fun W (h:Grew w W)=>v7Contains_v g f s W (hg.up h) (hf.up h) vg vf hs)
 rw[hs]
 clear hf hg vf vg hs
 obtain⟨fid,fk,fx,fy,fr,faA,fac,fa,fd,fs,fsA,fsc,fss⟩:=f
 obtain⟨gid,gk,gx,gy,gr,gaA,gac,ga,gd,gs,gsA,gsc,gss⟩:=g
 unfold FV.val at *
 dsimp only at *
 generalize fss.length=nf at *
 generalize gss.length=ng at *
 generalize fa.length=mf at *
 generalize ga.length=mg at *
 have n1:(fk==4)=false:=by simpa using hk
 clear hk
 cases s
 all_goals
  go_enter Tryz.func37,Tryz.ntmps37
  go_wp2_with (go_at_call 61;with_reducible refine crv (kc.out _ gw) fun _ _=>?_;dsimp only)
  go_ret
  exact Ret.mk' (by simp) gw
theorem v7For_v (f g:FV)(r:Bool)(w:World)(hf:f.rd w w.heap.size)(hg:g.rd w w.heap.size)(vf:FValid f=true)(vg:FValid g=true)(h:standB f g=r) :
  Calls Tryz.prog 37 #[f.val,g.val] w (Ret w (.bool r)):=by
 unfold standB at h
 by_cases hk:f.kind=4
 ·rw[if_pos hk] at h
  exact for_light f g r w hf hg vf vg hk h
 ·rw[if_neg hk] at h
  subst h
  exact for_shape f g w hf hg vf vg hk
end Go.Proofs.YtblgdlnmabkpoaaGreat
