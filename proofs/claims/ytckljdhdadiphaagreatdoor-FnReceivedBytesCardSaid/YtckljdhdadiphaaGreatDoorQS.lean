import Derived.Test.YtckljdhdadiphaaGreatDoorQ6
import Derived.Test.YtckljdhdadiphaaGreatDoorQ7
namespace Go.Proofs.YtckljdhdadiphaaGreatDoor
open Go.RowKit
set_option linter.unusedVariables false
set_option linter.unusedSimpArgs false
theorem gn(m:ap.T)(st:ak.T)(f:aL.T):bQ m st f=ba 8 ((ck m st).2.2.2.1.toNat-(19+10*(aW f m.1.toNat st).length)) (aW f m.1.toNat st):=rfl
theorem tx {m:ap.T}{st:ak.T}{f:aL.T}(hs:iw m st f=true):bp f=true:=by
 unfold iw at hs
 simp only[Bool.and_eq_true]at hs
 exact hs.1.1
theorem Qh {m:ap.T}{st:ak.T}{f:aL.T}(h:bC m=true)(hf:bp f=true):∀v ∈ aW f m.1.toNat st,0≤v∧v≤255:=by
 obtain⟨r,er,hr⟩:=jJ h
 have e:m.1.toNat=r:=by rw[er,Int.toNat_natCast]
 rw[e]
 exact(p9 hf hr).1
theorem rn(c:List Int)(hl:c.length≤1000000):fu (c,c,())=some (true,()):=by
 have e:=ks (B:=fS) c (fun i=>(c,c,(i:Int),())) (fun _=>true) (.inl ()) (.inr (false,())) (by simp only[fS,bJ]) (fun i h=>by
  simp only[fS,bw h,aQ h (show c.length≤1099511627776 by omega),az h,ab,iU]
  rfl)
 have e:ac fS (c,c,(0:Int),())=_:=e
 have hn:((c.length:Int) != (c.length:Int))=false:=iU _
 have ha:c.all (fun _=>true)=true:=by simp
 unfold fu
 simp only[hn,e,ha]
 rfl
theorem HY(f:aL.T)(hl:f.2.2.2.1.length≤1000000):jE (f,f,())=some (true,()):=by
 have hi:=rn f.2.2.2.1 hl
 have hq:∀a:Int,(a==a)=true:=fun a=>by simp
 have hs:dE ak f.2.2.1 f.2.2.1=true:=by simp[dE]
 unfold jE
 simp only[hq,hs,hi]
theorem Nb(v:gy.T)(hl:v.2.1.2.2.2.1.length≤1000000):jF (v,v,())=some (true,()):=by
 have hq:∀a:Int,(a==a)=true:=fun a=>by simp
 unfold jF
 simp only[hq,HY v.2.1 hl]
theorem T2(m:ap.T)(st:ak.T)(hz:dk m)(h:bC m=true)(hb:aN m st=true):iR (m,st,())=some (ck m st,(0:Int),()):=by
 have hk:=O0 m st hz
 simp only[h,hb]at hk
 have hk:fp ((m.1,m.2.1,m.2.2.1,m.2.2.2.1,()),(st.1,st.2.1,st.2.2.1,st.2.2.2.1,st.2.2.2.2.1,()),())=some ((0:Int),()):=hk
 obtain⟨_,hd,_⟩:=jI m st h hb
 have hd:cK ((m.1,m.2.1,m.2.2.1,m.2.2.2.1,()),(st.1,st.2.1,st.2.2.1,st.2.2.2.1,st.2.2.2.2.1,()),())=_:=hd
 unfold iR
 simp only[hk,hd]
 rfl
theorem T3(m:ap.T)(st:ak.T)(f:aL.T)(hz:dk m)(hl:f.2.2.2.1.length≤1099511627776):mN (m,st,f,())=some (if bm m st f=0 then(bQ m st f,(0:Int),())else([],bm m st f,())):=by
 have hc:=Jy m st f hz hl
 have hc:iI ((m.1,m.2.1,m.2.2.1,m.2.2.2.1,()),(st.1,st.2.1,st.2.2.1,st.2.2.2.1,st.2.2.2.2.1,()),(f.1,f.2.1,(f.2.2.1.1,f.2.2.1.2.1,f.2.2.1.2.2.1,f.2.2.1.2.2.2.1,f.2.2.1.2.2.2.2.1,()),f.2.2.2.1,()),())=_:=hc
 unfold mN
 simp only[hc]
 by_cases h:bm m st f=0
 ·have hs:=Er m st f hz h
  have hs:jZ ((m.1,m.2.1,m.2.2.1,m.2.2.2.1,()),(st.1,st.2.1,st.2.2.1,st.2.2.2.1,st.2.2.2.2.1,()),(f.1,f.2.1,(f.2.2.1.1,f.2.2.1.2.1,f.2.2.1.2.2.1,f.2.2.1.2.2.2.1,f.2.2.1.2.2.2.2.1,()),f.2.2.2.1,()),())=_:=hs
  have k0:(bm m st f != 0)=false:=by rw[h];rfl
  simp only[k0,hs,if_pos h]
 ·have k0:(bm m st f != 0)=true:=by simpa using h
  simp only[k0,if_neg h]
theorem Pb(m:ap.T)(st:ak.T)(f:aL.T)(hz:dk m)(hl:f.2.2.2.1.length≤1099511627776):ii (m,st,f,())=some (if bm m st f=0 then(aW f m.1.toNat st,(0:Int),())else([],bm m st f,())):=by
 have hc:=Jy m st f hz hl
 have hc:iI ((m.1,m.2.1,m.2.2.1,m.2.2.2.1,()),(st.1,st.2.1,st.2.2.1,st.2.2.2.1,st.2.2.2.2.1,()),(f.1,f.2.1,(f.2.2.1.1,f.2.2.1.2.1,f.2.2.1.2.2.1,f.2.2.1.2.2.2.1,f.2.2.1.2.2.2.2.1,()),f.2.2.2.1,()),())=_:=hc
 unfold ii
 simp only[hc]
 by_cases h:bm m st f=0
 ·obtain⟨h1,h2,h3⟩:=og h
  obtain⟨r,er,hr⟩:=jJ h1
  have hs:=CG f r st (tx h3) hr (oh h2)
  have hs:gY ((f.1,f.2.1,(f.2.2.1.1,f.2.2.1.2.1,f.2.2.1.2.2.1,f.2.2.1.2.2.2.1,f.2.2.1.2.2.2.2.1,()),f.2.2.2.1,()),(r:Int),(st.1,st.2.1,st.2.2.1,st.2.2.2.1,st.2.2.2.2.1,()),())=_:=hs
  have k0:(bm m st f != 0)=false:=by rw[h];rfl
  simp only[k0,er,hs,if_pos h,Int.toNat_natCast]
 ·have k0:(bm m st f != 0)=true:=by simpa using h
  simp only[k0,if_neg h]
theorem T4(m:ap.T)(st:ak.T)(f:aL.T)(hz:dk m)(hl:f.2.2.2.1.length≤1099511627776):ly (m,st,f,())=some (if bm m st f=0 then(aW f m.1.toNat st,(0:Int),())else([],bm m st f,())):=by
 have hc:=OZ m st f hz hl
 have hc:jY ((m.1,m.2.1,m.2.2.1,m.2.2.2.1,()),(st.1,st.2.1,st.2.2.1,st.2.2.2.1,st.2.2.2.2.1,()),(f.1,f.2.1,(f.2.2.1.1,f.2.2.1.2.1,f.2.2.1.2.2.1,f.2.2.1.2.2.2.1,f.2.2.1.2.2.2.2.1,()),f.2.2.2.1,()),())=_:=hc
 unfold ly
 simp only[hc]
 by_cases h:bm m st f=0
 ·obtain⟨h1,h2,h3⟩:=og h
  obtain⟨r,er,hr⟩:=jJ h1
  have hs:=Ki f r st (tx h3) hr (oh h2)
  have hs:qW ((f.1,f.2.1,(f.2.2.1.1,f.2.2.1.2.1,f.2.2.1.2.2.1,f.2.2.1.2.2.2.1,f.2.2.1.2.2.2.2.1,()),f.2.2.2.1,()),(r:Int),(st.1,st.2.1,st.2.2.1,st.2.2.2.1,st.2.2.2.2.1,()),())=_:=hs
  have k0:(bm m st f != 0)=false:=by rw[h];rfl
  simp only[k0,er,hs,if_pos h,Int.toNat_natCast]
 ·have k0:(bm m st f != 0)=true:=by simpa using h
  simp only[k0,if_neg h]
theorem RG(m:ap.T)(st:ak.T)(f:aL.T):(bm m st f==0)=((bC m&&aN m st)&&iw m st f):=by
 unfold bm
 cases bC m<;>cases aN m st<;>cases iw m st f<;>rfl
theorem Qi(m:ap.T)(st:ak.T)(f:aL.T)(hz:dk m)(hl:f.2.2.2.1.length≤1099511627776):lx (m,st,f,())=some ((bm m st f==0),()):=by
 have hM:=HN m hz
 have hM:ik ((m.1,m.2.1,m.2.2.1,m.2.2.2.1,()),())=_:=hM
 rw[RG]
 unfold lx wg
 simp only[hM]
 cases h1:bC m with
 |false=>rfl
 |true=>
  have hB:=Li m st h1
  have hB:iO ((m.1,m.2.1,m.2.2.1,m.2.2.2.1,()),(st.1,st.2.1,st.2.2.1,st.2.2.2.1,st.2.2.2.2.1,()),())=_:=hB
  simp only[hB]
  cases h2:aN m st with
  |false=>rfl
  |true=>
   have hS:=Rl m st f h1 h2 hl
   have hS:ip ((m.1,m.2.1,m.2.2.1,m.2.2.2.1,()),(st.1,st.2.1,st.2.2.1,st.2.2.2.1,st.2.2.2.2.1,()),(f.1,f.2.1,(f.2.2.1.1,f.2.2.1.2.1,f.2.2.1.2.2.1,f.2.2.1.2.2.2.1,f.2.2.1.2.2.2.2.1,()),f.2.2.2.1,()),())=_:=hS
   simp only[hS,Bool.and_self,Bool.true_and]
theorem SS {m:ap.T}{st:ak.T}{f:aL.T}(h:bm m st f=0):((bQ m st f).length:Int)=(ck m st).2.2.2.1∧(bQ m st f).length≤1000∧19≤(bQ m st f).length:=by
 obtain⟨h1,h2,h3⟩:=og h
 obtain⟨r,er,hr⟩:=jJ h1
 have e:m.1.toNat=r:=by rw[er,Int.toNat_natCast]
 obtain⟨D,hD,hD1,hD2⟩:=HS r hr h1 h2 h3
 have hlen:=fB 8 ((ck m st).2.2.2.1.toNat-(19+10*(aW f m.1.toNat st).length)) (aW f m.1.toNat st)
 rw[←gn]at hlen
 rw[e,hD,Int.toNat_natCast]at hlen
 rw[hD]
 exact⟨by omega,by omega,by omega⟩
theorem ST {m:ap.T}{st:ak.T}{y d:List Int}(h:du y=(d,(0:Int),())):C6 m st y=iu m st d:=by
 unfold C6
 rw[h,if_pos rfl]
theorem SU {m:ap.T}{st:ak.T}{y:List Int}(h1:bC m=true)(h2:aN m st=true)(h3:dn y=true):C7 m st y=(C6 m st y,(0:Int),()):=by
 unfold C7
 simp only[h1,h2,h3]
theorem Kx {m:ap.T}{st:ak.T}{y d:List Int}(h1:bC m=true)(h2:aN m st=true)(h3:dn y=true)(h:du y=(d,(0:Int),())):C7 m st y=(iu m st d,(0:Int),()):=by
 rw[SU h1 h2 h3,ST h]
theorem RH {m:ap.T}{st:ak.T}{f:aL.T}(h:∀v ∈ aW f m.1.toNat st,0≤v∧v≤255):du (bd (bQ m st f))=(aW f m.1.toNat st,(0:Int),()):=by
 rw[gn]
 exact(HX _ _ _ h).decoded h
theorem SV(l:List Int):ba 0 0 l=bT l:=by
 unfold ba
 simp only[List.replicate_zero,List.nil_append,List.append_nil]
theorem SW {l:List Int}(h:∀v ∈ l,0≤v∧v≤255):du (bd (bT l))=(l,(0:Int),()):=by
 have:=(HX 0 0 l h).decoded h
 rw[SV]at this
 exact this
theorem SX {l:List Int}{u:Unit}{m:ap.T}{st:ak.T}{f:aL.T}{X C L:List Int}{d:cE.T}(hbig:¬(l.length:Int)>4096)(hd:gR (l,())=some (m,st,f,()))(i1:kq (m,st,f,())=some (X,(0:Int),()))(s1:kr (m,st,f,())=some (X,(0:Int),()))(k1:fu (X,X,())=some (true,()))
  (i2:ji (m,st,f,())=some (C,(0:Int),())) (s2:mN (m,st,f,())=some (C,(0:Int),())) (k2:fu (C,C,())=some (true,())) (i3:lx (m,st,f,())=some (((0:Int)==0),())) (hdf:iR (m,st,())=some (d,(0:Int),())) (ch:eK (m,st,X,())=some (((3:Int),f,()),(0:Int),()))
  (hline:iG (C,())=some (L,(0:Int),())) (i4:ly (m,st,f,())=some (L,(0:Int),())) (s4:ii (m,st,f,())=some (L,(0:Int),())) (n1:(C.length:Int)=d.2.2.2.1) (hw8:IntKind.i64.wrap ((8:Int)*d.2.2.2.1)=(X.length:Int)) (x0:au X (0:Int)=some 1) (x1:X[(0:Int).toNat]? =some 1)
  (hwl:IntKind.i64.wrap ((X.length:Int)-1)=((X.length-1:Nat):Int)) (x2:au X ((X.length-1:Nat):Int)=some 1) (x3:X[X.length-1]? =some 1) (k3:jE (f,f,())=some (true,())) (k4:fu (L,L,())=some (true,())):gu (l,u)=some (true,()):=by
 have hb0:∀a:Int,(a != a)=false:=iU
 have hq:∀a:Int,(a==a)=true:=fun a=>by simp
 have hz1:((0:Int) != 0)=false:=rfl
 have hbt:(true != true)=false:=rfl
 unfold gu qg
 simp only[decide_eq_false hbig,hd,i1,s1,i2,s2,hb0,k1,k2,Bool.not_true,i3,hq,hbt,hz1,hdf,ch,hline,i4,s4,n1,hw8,x0,x1,ab,hwl,x2,Int.toNat_natCast,x3,k3,k4]
theorem HZ(x)(hx:Wf (.pair (.list (.int .u8)) .unit) x):gu x=some (true,()):=by
 obtain⟨(l:List Int),u⟩:=x
 by_cases hbig:(l.length:Int)>4096
 ·unfold gu qg
  simp only[decide_eq_true hbig]
 ·have hb:=M1 hx.1
  obtain⟨s,d1,g1⟩:=O1 l (by omega) hb
  obtain⟨⟨m,st,f,rest⟩,d2,_,hS,hl⟩:=RB g1
  have hl:f.2.2.2.1.length≤2000:=hl
  have hz:=pq hS
  have hz:dk m:=hz
  have d2:kZ ((s.1,s.2.1,s.2.2.1,()),())=_:=d2
  have hd:gR (l,())=some (m,st,f,()):=by
   unfold gR
   simp only[d1,d2]
  have i1:=TW m st f hz (by omega)
  have s1:=TX m st f hz (by omega)
  have i2:=Ep m st f hz (by omega)
  have s2:=T3 m st f hz (by omega)
  have i3:=Qi m st f hz (by omega)
  have i4:=T4 m st f hz (by omega)
  have s4:=Pb m st f hz (by omega)
  have hb0:∀a:Int,(a != a)=false:=iU
  by_cases h0:bm m st f=0
  ·rw[if_pos h0]at i1 s1 i2 s2 i4 s4
   rw[h0]at i3
   obtain⟨h1,h2,h3⟩:=og h0
   obtain⟨n1,n2,n3⟩:=SS h0
   obtain⟨_,c01⟩:=FM h0
   have hsl:=qo (bQ m st f)
   have k1:=rn (bd (bQ m st f)) (by omega)
   have k2:=rn (bQ m st f) (by omega)
   have hbits:dn (bd (bQ m st f))=true:=yX (HQ c01) (by omega)
   have ch:=Kh m st (bd (bQ m st f)) hz (by omega)
   have hseal:=Qh (st:=st) h1 (tx h3)
   have hrec:C7 m st (bd (bQ m st f))=(((3:Int),f,()),(0:Int),()):=by
    rw[Kx h1 h2 hbits (RH hseal),Qf h1 h3]
   rw[hrec]at ch
   have hline:=N9 ((ck m st).2.2.2.1.toNat-(19+10*(aW f m.1.toNat st).length)) (aW f m.1.toNat st) hseal (by rw[←gn];omega) (by rw[←gn];exact c01)
   rw[←gn]at hline
   have hdf:=T2 m st hz h1 h2
   have k3:=HY f (by omega)
   have hss:(aW f m.1.toNat st).length≤1000000:=by
    have:=fB 8 ((ck m st).2.2.2.1.toNat-(19+10*(aW f m.1.toNat st).length)) (aW f m.1.toNat st)
    rw[←gn]at this
    omega
   have k4:=rn (aW f m.1.toNat st) hss
   have hw8:IntKind.i64.wrap ((8:Int)*(ck m st).2.2.2.1)=((bd (bQ m st f)).length:Int):=by
    rw[←n1,hsl,wrap_i64]<;>omega
   have hq:∀a:Int,(a==a)=true:=fun a=>by simp
   have one:∀i,(hi:i<(bd (bQ m st f)).length)→(i<64∨8*((bQ m st f).length-1)≤i)→(bd (bQ m st f))[i]=1:=fun i hi hc=>by
    have e:=za (bQ m st f) i (by omega)
    rw[List.getElem?_eq_getElem hi]at e
    rw[Option.some.inj e]
    have hl2:i / 8<(ba 8 ((ck m st).2.2.2.1.toNat-(19+10*(aW f m.1.toNat st).length)) (aW f m.1.toNat st)).length:=by rw[←gn];omega
    have hpl:=fB 8 ((ck m st).2.2.2.1.toNat-(19+10*(aW f m.1.toNat st).length)) (aW f m.1.toNat st)
    rw[←gn]at hpl
    have hg:=tv 8 ((ck m st).2.2.2.1.toNat-(19+10*(aW f m.1.toNat st).length)) (aW f m.1.toNat st) (i / 8) hl2
    refine Eq.trans hg ?_
    split
    ·rfl
    ·exact zb _ _ (by omega)
   have hpos:0<(bd (bQ m st f)).length:=by omega
   have x0:au (bd (bQ m st f)) (0:Int)=some 1:=by
    have:=az hpos
    rw[one 0 hpos (.inl (by omega))]at this
    exact this
   have x1:(bd (bQ m st f))[(0:Int).toNat]? =some 1:=by
    have:=List.getElem?_eq_getElem hpos
    rw[one 0 hpos (.inl (by omega))]at this
    exact this
   have hlast:(bd (bQ m st f)).length-1<(bd (bQ m st f)).length:=by omega
   have hwl:IntKind.i64.wrap (((bd (bQ m st f)).length:Int)-1)=(((bd (bQ m st f)).length-1:Nat):Int):=by rw[wrap_i64]<;>omega
   have x2:au (bd (bQ m st f)) (((bd (bQ m st f)).length-1:Nat):Int)=some 1:=by
    rw[az hlast,one _ hlast (.inr (by omega))]
   have x3:(bd (bQ m st f))[(bd (bQ m st f)).length-1]? =some 1:=by
    rw[List.getElem?_eq_getElem hlast,one _ hlast (.inr (by omega))]
   exact SX hbig hd i1 s1 k1 i2 s2 k2 i3 hdf ch hline i4 s4 n1 hw8 x0 x1 hwl x2 x3 k3 k4
  ·rw[if_neg h0]at i1 s1 i2 s2 i4 s4
   have hn:(bm m st f==0)=false:=by simpa using h0
   have hn2:(bm m st f != 0)=true:=by simpa using h0
   have k1:=rn [] (by simp)
   have hbt:(false != false)=false:=rfl
   unfold gu qg
   simp only[decide_eq_false hbig,hd,i1,s1,i2,s2,hb0,k1,Bool.not_true,i3,hn,hbt,hn2]
noncomputable def ke(m:ap.T)(st:ak.T)(l:List Int):gy.T×Int×Unit:=match bC m with
 |false=>(((0:Int),kd,()),(1:Int),())
 |true=>match aN m st with
  |false=>(((0:Int),kd,()),(2:Int),())
  |true=>match c7 l with
   |false=>(((0:Int),kd,()),(2:Int),())
   |true=>(iu m st l,(0:Int),())
theorem wq {l:List Int}(h:c7 l=true):l.length≤1024∧∀v ∈ l,0≤v∧v≤255:=by
 unfold c7 at h
 simp only[Bool.and_eq_true,decide_eq_true_eq,List.all_eq_true]at h
 exact⟨by omega,fun v hv=>bg.1 (h.2 v hv)⟩
theorem T5(m:ap.T)(st:ak.T)(l:List Int)(hz:dk m)(hl:l.length≤1000000):jC (m,st,l,())=some (ke m st l):=by
 have hb:gi (l,())=some (c7 l,()):=CZ (l,()) (Nat.le_trans hl (by omega))
 have hk:=O0 m st hz
 have hk:fp ((m.1,m.2.1,m.2.2.1,m.2.2.2.1,()),(st.1,st.2.1,st.2.2.1,st.2.2.2.1,st.2.2.2.2.1,()),())=_:=hk
 unfold jC ko ke
 simp only[hb,hk]
 cases h1:bC m with
 |false=>rfl
 |true=>
  cases h2:aN m st with
  |false=>rfl
  |true=>
   cases h3:c7 l with
   |false=>rfl
   |true=>
    obtain⟨p1,p2⟩:=wq h3
    obtain⟨c,hj⟩:=MY m st l h1 h2 (by omega) p2
    have hj:pS ((m.1,m.2.1,m.2.2.1,m.2.2.2.1,()),(st.1,st.2.1,st.2.2.1,st.2.2.2.1,st.2.2.2.2.1,()),l,())=_:=hj
    have hz1:((0:Int) != 0)=false:=rfl
    simp only[hz1,Bool.not_true,hj]
theorem T6(m:ap.T)(st:ak.T)(l:List Int)(hz:dk m)(hl:l.length≤1000000):jD (m,st,l,())=some (ke m st l):=by
 have hb:kT (l,())=some (c7 l,()):=OI (l,()) (Nat.le_trans hl (by omega))
 have hk:=TZ m st hz
 have hk:jN ((m.1,m.2.1,m.2.2.1,m.2.2.2.1,()),(st.1,st.2.1,st.2.2.1,st.2.2.2.1,st.2.2.2.2.1,()),())=_:=hk
 unfold jD ke
 simp only[hb,hk]
 cases h1:bC m with
 |false=>rfl
 |true=>
  cases h2:aN m st with
  |false=>rfl
  |true=>
   cases h3:c7 l with
   |false=>rfl
   |true=>
    obtain⟨p1,p2⟩:=wq h3
    obtain⟨c,hj⟩:=SC m st l h1 h2 (by omega) p2
    have hj:jV ((m.1,m.2.1,m.2.2.1,m.2.2.2.1,()),(st.1,st.2.1,st.2.2.1,st.2.2.2.1,st.2.2.2.2.1,()),l,())=_:=hj
    have hz1:((0:Int) != 0)=false:=rfl
    have hz2:((0:Int)==0)=true:=rfl
    simp only[hz1,hz2,Bool.not_true,hj]
theorem H0(m:ap.T)(st:ak.T)(l:List Int):(iu m st l).2.1.2.2.2.1.length≤32:=by
 unfold iu
 cases hj:fc l m.1.toNat st&&gW (ck m st) (cg (aq l)).1 with
 |false=>exact Nat.zero_le _
 |true=>
  rw[Bool.and_eq_true]at hj
  exact rk (Kg (OX hj.1))
theorem Qj(m:ap.T)(st:ak.T)(l:List Int):(ke m st l).1.2.1.2.2.2.1.length≤32:=by
 unfold ke
 cases bC m with
 |false=>exact Nat.zero_le _
 |true=>
  cases aN m st with
  |false=>exact Nat.zero_le _
  |true=>
   cases c7 l with
   |false=>exact Nat.zero_le _
   |true=>exact H0 m st l
theorem Nc(v:gy.T)(hl:v.2.1.2.2.2.1.length≤1000000):gN (v,v,())=some (true,()):=by
 have h:=K8 (v,v,()) (Nat.le_trans hl (by omega))
 have hs:lA v v=true:=by
  have hq:∀a:Int,(a==a)=true:=fun a=>by simp
  have ht:dE ak v.2.1.2.2.1 v.2.1.2.2.1=true:=by simp[dE]
  unfold lA tp
  simp only[hq,ht,decide_true,Bool.and_self]
 have h:gN (v,v,())=some (lA v v,()):=h
 rw[h,hs]
theorem Vv {l:List Int}(hl:l.length≤4096)(hb:∀b ∈ l,(0:Int)≤b∧b≤255):∃(m:ap.T) (st:ak.T) (data:List Int),gg (l,())=some (m,st,data,())∧dk m∧data.length≤10000:=by
 obtain⟨s,d1,g1⟩:=O1 l hl hb
 obtain⟨⟨m,st,f,src,⟨⟩⟩,d2,g2,hS,hlf⟩:=RB g1
 have hlf:f.2.2.2.1.length≤2000:=hlf
 have g2:aZ src:=g2
 have hz:dk m:=pq hS
 have d2:kZ ((s.1,s.2.1,s.2.2.1,()),())=_:=d2
 have hs:=Pb m st f hz (by omega)
 have hs:ii ((m.1,m.2.1,m.2.2.1,m.2.2.2.1,()),(st.1,st.2.1,st.2.2.1,st.2.2.2.1,st.2.2.2.2.1,()),(f.1,f.2.1,(f.2.2.1.1,f.2.2.1.2.1,f.2.2.1.2.2.1,f.2.2.1.2.2.2.1,f.2.2.1.2.2.2.2.1,()),f.2.2.2.1,()),())=_:=hs
 unfold gg
 simp only[d1,d2,hs,cT,lU]
 by_cases h0:bm m st f=0
 ·obtain⟨h1,h2,h3⟩:=og h0
  obtain⟨r,er,hr⟩:=jJ h1
  have e:m.1.toNat=r:=by rw[er,Int.toNat_natCast]
  have hsl:=(p9 (st:=st) (tx h3) hr).2.2
  have hsn:1≤(aW f r st).length:=by unfold aW;simp
  obtain⟨v5,e5,d5,g5⟩:=aG (n:=5) g2
  have e5:aa ((src.1,src.2.1,src.2.2.1,()),(5:Int),())=some v5:=e5
  obtain⟨v6,e6,d6,g6⟩:=aG (n:=((aW f r st).length:Int)) g5
  obtain⟨v7,e7,d7,g7⟩:=aG (n:=256) g6
  obtain⟨w,w1,w2,_⟩:=pick (aW f r st) d6 (Int.le_refl _) hsn
  obtain⟨v10,e10,g10,l10,f10⟩:=Rz g5
  have hz1:((0:Int) != 0)=false:=rfl
  have hset:((aW f r st).set v6.1.toNat v7.1).length≤10000:=by rw[List.length_set];omega
  have hsl2:(aW f r st).length≤10000:=by omega
  simp only[if_pos h0,hz1,e5,e,e6,e7,w1,w2,ab,e10]
  split
  ·exact⟨m,st,_,rfl,hz,hset⟩
  ·split
   ·have hq:=CG v10.1 r st f10 hr (oh h2)
    have hq:gY (v10.1,m.1,(st.1,st.2.1,st.2.2.1,st.2.2.2.1,st.2.2.2.2.1,()),())=some (aW v10.1 r st,()):=by rw[er];exact hq
    have hq2:=(p9 (st:=st) f10 hr).2.2
    simp only[hq]
    exact⟨m,st,_,rfl,hz,by omega⟩
   ·exact⟨m,st,_,rfl,hz,hsl2⟩
 ·obtain⟨v8,e8,g8,l8⟩:=Kt 8 (by omega) g2
  have e8:eV ((src.1,src.2.1,src.2.2.1,()),(8:Int),())=some v8:=e8
  have hn2:(bm m st f != 0)=true:=by simpa using h0
  simp only[if_neg h0,hn2,e8]
  exact⟨m,st,_,rfl,hz,Nat.le_trans l8 (by omega)⟩
theorem Vw {l:List Int}{u:Unit}{m:ap.T}{st:ak.T}{data c y:List Int}{w:gy.T}(hbig:¬(l.length:Int)>4096)(hd:gg (l,())=some (m,st,data,()))(i1:jC (m,st,data,())=some (w,(0:Int),()))(s1:jD (m,st,data,())=some (w,(0:Int),()))(k1:jF (w,w,())=some (true,()))
  (h80:¬(data.length:Int)>80) (hcells:qR (data,(8:Int),())=some (c,(0:Int),())) (hnom:eJ (c,())=some (y,(0:Int),())) (ch:eK (m,st,y,())=some (w,(0:Int),())) (hsv:gN (w,w,())=some (true,())):ep (l,u)=some (true,()):=by
 have hb0:∀a:Int,(a != a)=false:=iU
 have hz2:((0:Int)==0)=true:=rfl
 unfold ep qg
 simp only[decide_eq_false hbig,hd,i1,s1,hb0,k1,Bool.not_true,decide_eq_false h80,hcells,hnom,ch,hz2,hsv]
theorem DG(x)(hx:Wf (.pair (.list (.int .u8)) .unit) x):ep x=some (true,()):=by
 obtain⟨(l:List Int),u⟩:=x
 by_cases hbig:(l.length:Int)>4096
 ·unfold ep qg
  simp only[decide_eq_true hbig]
 ·have hb:=M1 hx.1
  obtain⟨m,st,data,hd,hz,hl⟩:=Vv (l:=l) (by omega) hb
  have i1:=T5 m st data hz (by omega)
  have s1:=T6 m st data hz (by omega)
  have hb0:∀a:Int,(a != a)=false:=iU
  have k1:=Nb (ke m st data).1 (by have:=Qj m st data;omega)
  by_cases h0:(ke m st data).2.1=0
  ·have hz1:((ke m st data).2.1 != 0)=false:=by rw[h0];rfl
   have hparts:bC m=true∧aN m st=true∧c7 data=true:=by
    unfold ke at h0
    cases h1:bC m with
    |false=>rw[h1]at h0;exact absurd h0 (show ¬(1:Int)=0 by decide)
    |true=>
     cases h2:aN m st with
     |false=>rw[h1,h2]at h0;exact absurd h0 (show ¬(2:Int)=0 by decide)
     |true=>
      cases h3:c7 data with
      |false=>rw[h1,h2,h3]at h0;exact absurd h0 (show ¬(2:Int)=0 by decide)
      |true=>exact⟨rfl,rfl,rfl⟩
   obtain⟨h1,h2,h3⟩:=hparts
   obtain⟨p1,p2⟩:=wq h3
   by_cases h80:(data.length:Int)>80
   ·unfold ep qg
    simp only[decide_eq_false hbig,hd,i1,s1,hb0,k1,Bool.not_true,hz1,decide_eq_true h80]
   ·have hby:gi (data,())=some (true,()):=by rw[←h3];exact CZ (data,()) (by show data.length≤_;omega)
    have hp:fv ((8:Int),())=some (true,()):=by
     unfold fv
     simp only[pj]
     rfl
    have ht:∃z:Int,iQ ((data.length:Int),(8:Int),())=some (z,())∧z≤8192:=by
     have w1:IntKind.i64.wrap ((8:Int)+3)=11:=by decide
     have w2:IntKind.i64.wrap ((10:Int)*(data.length:Int))=10*(data.length:Int):=by rw[wrap_i64]<;>omega
     have w3:IntKind.i64.wrap (11+10*(data.length:Int))=11+10*(data.length:Int):=by rw[wrap_i64]<;>omega
     refine⟨11+10*(data.length:Int), ?_,by omega⟩
     unfold iQ
     simp only[w1,w2,w3]
    obtain⟨z,ht1,ht2⟩:=ht
    have hc:=MZ data (by omega)
    have hcells:qR (data,(8:Int),())=some (bT data,(0:Int),()):=by
     unfold qR
     simp only[hby,hp,Bool.not_true,ht1,decide_eq_false (show ¬z>8192 by omega),hc]
    have hll:=lC data
    have h01:=Jw p2
    have hnom:=Kj (bT data) h01 (by omega)
    have hsl:=qo (bT data)
    have ch:=Kh m st (bd (bT data)) hz (by omega)
    have hbits:dn (bd (bT data))=true:=yX (HQ h01) (by omega)
    have hrec:=Kx h1 h2 hbits (SW p2)
    rw[hrec]at ch
    have he:(ke m st data).1=iu m st data:=by
     unfold ke
     simp only[h1,h2,h3]
    have hsv:=Nc (iu m st data) (by have:=H0 m st data;omega)
    have hz2:((0:Int)==0)=true:=rfl
    have hw:ke m st data=(iu m st data,(0:Int),()):=by
     unfold ke
     simp only[h1,h2,h3]
    rw[hw]at i1 s1 k1
    exact Vw hbig hd i1 s1 k1 h80 hcells hnom ch hsv
  ·have hz1:((ke m st data).2.1 != 0)=true:=by simpa using h0
   unfold ep qg
   simp only[decide_eq_false hbig,hd,i1,s1,hb0,k1,Bool.not_true,hz1]
end Go.Proofs.YtckljdhdadiphaaGreatDoor
