/- Package span: boxes; places in them. -/
import Derived.Test.YtlkgjmnjhifehaaGreatPov
set_option linter.unusedSimpArgs false
set_option linter.unusedVariables false
set_option maxHeartbeats 4000000
set_option maxRecDepth 100000
namespace Go.Proofs.YtlkgjmnjhifehaaGreat
open Go.RowKit Go.Sort
attribute [local go_sem] dA steadyUpon
attribute [local go_sem ↓] bU bI aX aW aV aU aT
attribute [local go_sem] bH aK aJ size_grow tape_grow cell?_grow' aF aB grow_grow bW aY dR cO bY bK aN cZ aZ bZ bJ
attribute [local irreducible] wpSteady
theorem TF (a b:B4)(w:World) :
  Calls Tryz.prog 84 #[vk a,vk b,.func (.func 103) #[] #[]] w (aC w (.tuple #[vk (uz a b).1,.int .i64 (uz a b).2])):=by
 have hm:=aP
 unfold uz
 obtain⟨u,hu⟩:∃u,okB a=u:=⟨_,rfl⟩
 obtain⟨v,hv⟩:∃u,okB b=u:=⟨_,rfl⟩
 rw[hu,hv]
 have k1:=hide (fun W=>jM a u W hu)
 have k2:=hide (fun W=>jM b v W hv)
 cases u
 ·obtain⟨⟨a1,a2⟩,⟨a3,a4⟩⟩:=a
  obtain⟨⟨b1,b2⟩,⟨b3,b4⟩⟩:=b
  clear hu hv
  simp only[Bool.false_and,Bool.false_eq_true,if_false]
  go_enter Tryz.func84,Tryz.ntmps84
  go_wp2_with (go_at_call 46;with_reducible refine aQ (k1.out _) fun _ _=>?_;dsimp only)
  refine bodyPost_ret (v:=.tuple #[vk ((0,0),(0,0)),.int .i64 1]) (by simp[results,Tryz.results84,go_sem]) rfl ?_
  exact aC.mk' rfl gw
 ·cases v
  ·obtain⟨⟨a1,a2⟩,⟨a3,a4⟩⟩:=a
   obtain⟨⟨b1,b2⟩,⟨b3,b4⟩⟩:=b
   clear hu hv
   simp only[Bool.true_and,Bool.false_eq_true,if_false]
   go_enter Tryz.func84,Tryz.ntmps84
   go_wp2_with ((go_at_call 46;first|with_reducible refine (k1.out _).mono ?_|with_reducible refine (k2.out _).mono ?_);rintro e w' ⟨rfl,⟨_,_⟩,rfl⟩;dsimp only)
   refine bodyPost_ret (v:=.tuple #[vk ((0,0),(0,0)),.int .i64 1]) (by simp[results,Tryz.results84,go_sem]) rfl ?_
   exact aC.mk' rfl gw
  ·have ha:=hu
   have hb:=hv
   simp only[okB,decide_eq_true_eq] at ha hb
   have k3:=hide (fun W=>QK a.1 b.1 W ha.1 hb.1)
   have k4:=hide (fun W=>QK a.2 b.2 W ha.2 hb.2)
   clear ha hb hu hv
   unfold GR
   obtain⟨⟨a1,a2⟩,⟨a3,a4⟩⟩:=a
   obtain⟨⟨b1,b2⟩,⟨b3,b4⟩⟩:=b
   dsimp only at *
   generalize min a1 b1=m1 at *
   generalize max a2 b2=m2 at *
   generalize min a3 b3=m3 at *
   generalize max a4 b4=m4 at *
   simp only[Bool.true_and,if_true]
   go_enter Tryz.func84,Tryz.ntmps84
   go_wp2_with (first|((go_at_call 46;first|with_reducible refine (k1.out _).mono ?_|with_reducible refine (k2.out _).mono ?_);rintro e w' ⟨rfl,⟨_,_⟩,rfl⟩;dsimp only)|((go_at_call 103;first|with_reducible refine (k3.out _).mono ?_|with_reducible refine (k4.out _).mono ?_);rintro e w' ⟨rfl,⟨_,_⟩,rfl⟩;dsimp only))
   refine bodyPost_ret (v:=.tuple #[vk ((m1,m2),(m3,m4)),.int .i64 0]) (by simp[results,Tryz.results84,go_sem]) rfl ?_
   exact aC.mk' rfl gw
theorem MI (a b:B4)(w:World) :
  Calls Tryz.prog 83 #[vk a,vk b] w (aC w (.tuple #[vk (uz a b).1,.int .i64 (uz a b).2])):=by
 have k1:=hide (fun W=>TF a b W)
 obtain⟨⟨⟨⟨j1,j2⟩,⟨j3,j4⟩⟩,e⟩,hj⟩:∃j,uz a b=j:=⟨_,rfl⟩
 rw[hj] at k1 ⊢
 obtain⟨⟨a1,a2⟩,⟨a3,a4⟩⟩:=a
 obtain⟨⟨b1,b2⟩,⟨b3,b4⟩⟩:=b
 clear hj
 go_enter Tryz.func83,Tryz.ntmps83
 go_wp2_with (go_at_call 84;with_reducible refine aQ (k1.out _) fun _ _=>?_;dsimp only)
 refine bodyPost_ret (v:=.tuple #[vk ((j1,j2),(j3,j4)),.int .i64 e]) (by simp[results,Tryz.results83,go_sem]) rfl ?_
 exact aC.mk' rfl gw
def nJ (a b:B4):Bool×Int:=if (okB a&&okB b)=true then (decide (GR a b=b),0) else (false,1)
theorem FX (a b:B4)(w:World) :
  Calls Tryz.prog 47 #[vk a,vk b] w (aC w (.tuple #[.bool (nJ a b).1,.int .i64 (nJ a b).2])):=by
 have hm:=aP
 have k1:=hide (fun W=>MI a b W)
 unfold nJ
 unfold uz at k1
 obtain⟨u,hu⟩:∃u,(okB a&&okB b)=u:=⟨_,rfl⟩
 rw[hu] at k1 ⊢
 cases u
 ·simp only[Bool.false_eq_true,if_false] at k1 ⊢
  clear hu
  obtain⟨⟨a1,a2⟩,⟨a3,a4⟩⟩:=a
  obtain⟨⟨b1,b2⟩,⟨b3,b4⟩⟩:=b
  go_enter Tryz.func47,Tryz.ntmps47
  go_wp2_with (go_at_call 83;with_reducible refine aQ (k1.out _) fun _ _=>?_;dsimp only)
  go_ret2
  exact aC.mk' rfl gw
 ·simp only[if_true] at k1 ⊢
  clear hu
  obtain⟨⟨⟨j1,j2⟩,⟨j3,j4⟩⟩,hj⟩:∃j,GR a b=j:=⟨_,rfl⟩
  rw[hj] at k1 ⊢
  obtain⟨⟨a1,a2⟩,⟨a3,a4⟩⟩:=a
  obtain⟨⟨b1,b2⟩,⟨b3,b4⟩⟩:=b
  clear hj
  obtain⟨r,hr⟩:∃r,decide ((((j1,j2),(j3,j4)):B4)=((b1,b2),(b3,b4)))=r:=⟨_,rfl⟩
  rw[hr]
  have hcase:(j1=b1/\j2=b2/\j3=b3/\j4=b4/\r=true)\/(j1=b1/\j2=b2/\j3=b3/\j4≠b4/\r=false)\/(j1=b1/\j2=b2/\j3≠b3/\r=false)\/(j1=b1/\j2≠b2/\r=false)\/(j1≠b1/\r=false):=by
   rw[<-hr]
   simp only[Prod.mk.injEq,decide_eq_true_eq,decide_eq_false_iff_not]
   omega
  clear hr
  rcases hcase with⟨rfl,rfl,rfl,rfl,rfl⟩|⟨rfl,rfl,rfl,h1,rfl⟩|⟨rfl,rfl,h1,rfl⟩|⟨rfl,h1,rfl⟩|⟨h1,rfl⟩
  all_goals
   go_enter Tryz.func47,Tryz.ntmps47
   go_wp2_with (go_at_call 83;with_reducible refine aQ (k1.out _) fun _ _=>?_;dsimp only)
   go_ret2
   exact aC.mk' rfl gw
end Go.Proofs.YtlkgjmnjhifehaaGreat
