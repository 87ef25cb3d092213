import Derived.Test.YtnambbcafhnhpaaGreatDoorDeep
namespace Go.Proofs.YtnambbcafhnhpaaGreatDoor
open Go.RowKit
set_option linter.unusedVariables false
set_option linter.unusedSimpArgs false
section
variable {P:Program} {C:Cx} {μ:Nm} {af:AF} {a:Act} {w w0:World} {Γ:cD} {E:bR} {R:Type}
theorem jB.put {ok:Nat→Prop}{v:Value}:∀(t:Ty) {x:t.T} {us:List Value} {bs:List Nat} {off:Nat},jB P ok w v t off x us bs→
  us.length=t.size∧off<t.size∧∀v',jB P ok w v' t off x (us.take off++ [v']++us.drop (off+1)) bs
 | .own e t,x,us,bs,off,h=>by
   cases off with
   |zero=>
    obtain⟨rfl,rfl⟩:=h
    exact⟨rfl,by simp[Ty.size],fun v'=>⟨rfl,rfl⟩⟩
   |succ n=>exact(h:False).elim
 | .pair p q,x,us,bs,off,h=>by
   simp only[jB]at h
   by_cases hlt:off<p.size
   ·rw[if_pos hlt]at h
    obtain⟨u1,u2,c1,c2,rfl,rfl,h1,h2⟩:=h
    obtain⟨g1,g2,g3⟩:=jB.put p h1
    refine⟨by simp[Ty.size,g1,(bm.len q h2).1],by simp only[Ty.size];omega,fun v'=> ?_⟩
    simp only[jB,if_pos hlt]
    refine⟨_,u2,c1,c2, ?_,rfl,g3 v',h2⟩
    rw[List.take_append_of_le_length (by omega),List.drop_append_of_le_length (by omega)]
    simp
   ·rw[if_neg hlt]at h
    obtain⟨u1,u2,c1,c2,rfl,rfl,h1,h2⟩:=h
    obtain⟨g1,g2,g3⟩:=jB.put q h2
    have hl:=(bm.len p h1).1
    refine⟨by simp[Ty.size,g1,hl],by simp only[Ty.size];omega,fun v'=> ?_⟩
    simp only[jB,if_neg hlt]
    refine⟨u1,_,c1,c2, ?_,rfl,h1,g3 v'⟩
    have eT:(u1++u2).take off=u1++u2.take (off-p.size):=by
     rw[List.take_append,List.take_of_length_le (by omega),hl]
    have eD:(u1++u2).drop (off+1)=u2.drop (off-p.size+1):=by
     rw[List.drop_append,List.drop_of_length_le (by omega),List.nil_append,hl]
     congr 1;omega
    rw[eT,eD]
    simp
 | .int _,_,_,_,_,h=>(h:False).elim
 | .bool,_,_,_,_,h=>(h:False).elim
 | .str,_,_,_,_,h=>(h:False).elim
 | .unit,_,_,_,_,h=>(h:False).elim
 | .list _,_,_,_,_,h=>(h:False).elim
 | .ptr _,_,_,_,_,h=>(h:False).elim
 | .fn _ _,_,_,_,_,h=>(h:False).elim
 | .box _,_,_,_,_,h=>(h:False).elim
 | .nptr _,_,_,_,_,h=>(h:False).elim
 | .nil,_,_,_,_,h=>(h:False).elim
theorem jO.put {ok:Nat→Prop}{v:Value}{t:Ty}{off:Nat}:∀ {xs:List t.T} {i:Nat} {cs:List Value} {bs:List Nat},jO P ok w v t off xs i cs bs→
  ∃c1 us c2,cs=c1++us++c2∧c1.length=i*t.size∧us.length=t.size∧off<t.size∧∀v',jO P ok w v' t off xs i (c1++(us.take off++ [v']++us.drop (off+1))++c2) bs
 | [],_,_,_,h=>(h:False).elim
 |x::xs,0,cs,bs,h=>by
  obtain⟨u1,u2,b1,b2,rfl,rfl,h1,h2⟩:=h
  obtain⟨g1,g2,g3⟩:=jB.put t h1
  exact⟨[],u1,u2,rfl,by simp,g1,g2,fun v'=>⟨_,u2,b1,b2,rfl,rfl,g3 v',h2⟩⟩
 |x::xs,i+1,cs,bs,h=>by
  obtain⟨u1,u2,b1,b2,rfl,rfl,h1,h2⟩:=h
  obtain⟨c1,us,c2,rfl,g1,g2,g3,g4⟩:=jO.put h2
  refine⟨u1++c1,us,c2,by simp,by simp[g1,(bm.len t h1).1,Nat.add_mul,Nat.add_comm],g2,g3,fun v'=> ?_⟩
  exact⟨u1,_,b1,b2,by simp,rfl,h1,g4 v'⟩
theorem abk(hT:cH P Γ E=true)(hK:aG C.Ch w0 w)(hS:a8 P C μ af a w){id:TypeId}{l i k off:Nat}{v:AV}{u x:Value}{K:AF→Option R}{r:R}(hp:VA P μ (aO C.A μ af) w (.eptr l i k off) u)(hv:VA P μ (aO C.A μ af) w v x)
  (h:UJ Γ af id l i k off v K=some r):∃w',(Instr.storeAt id u x).run P w= .ok () w'∧PK P C w0 K r a w':=by
 unfold UJ at h
 split at h
 ·rename_i t1 e t xs i0 x0 off0 d0 m ht ho
  have hc:=cN hT ht
  split at h
  ·rename_i e2 t2 ys hom
   split at h
   case isFalse=>cases h
   rename_i hi0
   subst hi0
   split at h
   ·rename_i hh
    obtain⟨rfl,rfl,hsz,hlock⟩:=hh
    have hv:x=μ m:=hv
    subst hv
    obtain⟨cm,⟨_,hmv⟩,_⟩:=hS.objs m _ hom
    have hx1:(μ m).cells.toList= [μ m]∧(μ m).oneCell'=true:=by
     obtain⟨hm,_⟩|⟨g,cap,cur,hm,_⟩:=hmv<;>(rw[hm];exact⟨rfl,rfl⟩)
    obtain⟨hx1,hone⟩:=hx1
    obtain⟨b,n,c,hb,rfl⟩:=hp
    have hbk:ck (μ l)=some b:=by rw[hb];rfl
    have hch:C.Ch b:=(hS.chg.resolve_left (by simp[hlock])) _ (hS.wr _ _ _ ho (.inl hbk)).1
    obtain⟨cells,bs,hown,hx0,hrw,hnd,hbs⟩:=hS.objs l _ ho
    obtain⟨c1,us,c2,hce,hc1,hul,hfit,hput⟩:=jO.put hrw
    obtain⟨hcl,⟨hm,_⟩|⟨g,cap,cur,hm,hb0,hg,hncap,hcm,hcs,htake⟩⟩:=hown
    ·rw[hb]at hm;cases hm
    ·rw[hb]at hm
     simp at hm
     obtain⟨rfl,hn,rfl⟩:=hm
     have hcur:cells.length≤cur.size:=by rw[←htake];simp;omega
     have hce':cells.length=c1.length+us.length+c2.length:=by rw[hce];simp[Nat.add_assoc]
     have hxs:(μ m).cells.size=t1.size:=by rw[←Array.length_toList,hx1,hsz];rfl
     have hrun:=rF (tk hc) hg (v:=μ m) (o:=i*t.size+off) (by omega) (by rw[hx1];intro y hy;simp at hy;rw[hy];exact hone) (by omega)
     generalize hW:w.setRow b _=W at hrun
     have hWs:W.heap.size=w.heap.size:=by rw[←hW];simp
     have hother:∀k,k≠b→W.heap[k]? =w.heap[k]? :=fun k hk=>by
      have hne:¬b=k:=fun e=>hk e.symm
      rw[←hW]
      simp[World.setRow,Array.getElem?_modify,hne]
     have hkeep:aG C.Ch w W:=by rw[←hW];exact aG.setRow C.Ch w b _ hch
     have hrow:W.ownsRow 0 e t.size (μ l) xs.length (c1++(us.take off++ [μ m]++us.drop (off+1))++c2):=by
      have hlr:(c1++(us.take off++ [μ m]++us.drop (off+1))++c2).length=xs.length*t.size:=by
       rw[←hcl,hce']
       simp;omega
      refine⟨hlr,.inr ⟨b,c,_,by rw[hb,hn],Nat.zero_le _,by rw[←hW];exact setRow_heap w b cur _ e (0,0) hg,by omega,hcm, ?_, ?_⟩⟩
      ·simp;omega
      ·have hlc:cur.toList=cells++cur.toList.drop (xs.length*t.size):=by
        rw[←htake];exact(List.take_append_drop _ _).symm
       rw[←hcl,hlc,hce,←hc1]
       have:=Fr c1 us c2 (cur.toList.drop (xs.length*t.size)) (μ m).cells.toList off t1.size (by simp;omega) (by omega)
       rw[hx1,hsz]at this
       simpa [hx1,hsz]using this
     have hnb:∀b' ∈ bs,b'≠b:=fun b' h e=>(hbs b' h).1 (by rw[e];exact hbk)
     refine⟨W,by simp[Instr.storeAt,Instr.sureAddr,hrun],_,h,hK.trans hkeep,μ,hS.stored ho hbk hWs hother (fun ha=> ?_)⟩
     exact⟨_,bs,hrow,hx0,(hput (μ m)).mono ha (fun _ _ h=>h) (fun b' hb'=>hother b' (hnb b' hb')),hnd,hbs⟩
   ·cases h
  ·cases h
 ·cases h
end
end Go.Proofs.YtnambbcafhnhpaaGreatDoor
