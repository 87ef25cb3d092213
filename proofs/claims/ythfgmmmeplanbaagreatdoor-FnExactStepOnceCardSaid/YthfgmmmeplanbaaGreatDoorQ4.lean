import Derived.Test.YthfgmmmeplanbaaGreatDoorQ3
namespace Go.Proofs.YthfgmmmeplanbaaGreatDoor
open Go.RowKit
set_option linter.unusedVariables false
set_option linter.unusedSimpArgs false
theorem S7(a b:Nat)(ha:a<9223372036854775808)(hb:b<9223372036854775808):bits .andNot .i64 (a:Int) (b:Int)=((a^^^(a&&& b):Nat):Int):=by
 have h1:BitVec.ofInt 64 (a:Int)=BitVec.ofNat 64 a:=BitVec.ofInt_natCast ..
 have h2:BitVec.ofInt 64 (b:Int)=BitVec.ofNat 64 b:=BitVec.ofInt_natCast ..
 have e:bits .andNot .i64 (a:Int) (b:Int)=IntKind.i64.wrap ((BitVec.ofNat 64 a&&& ~~~ BitVec.ofNat 64 b).toNat:Int):=by
  rw[←h1,←h2];rfl
 have hand:a&&& b<2^63:=Nat.lt_of_le_of_lt Nat.and_le_left (by omega)
 have hx:a^^^(a&&& b)<2^63:=Nat.xor_lt_two_pow (by omega) hand
 have h0:BitVec.ofNat 64 a&&& ~~~ BitVec.ofNat 64 b=BitVec.ofNat 64 (a^^^(a&&& b)):=by
  apply BitVec.eq_of_getLsbD_eq
  intro i hi
  simp only[BitVec.getLsbD_and,BitVec.getLsbD_not,BitVec.getLsbD_ofNat,hi,decide_true,Bool.true_and,Nat.testBit_xor,Nat.testBit_and]
  cases a.testBit i<;>cases b.testBit i<;>rfl
 have hn:(BitVec.ofNat 64 (a^^^(a&&& b))).toNat=a^^^(a&&& b):=by rw[BitVec.toNat_ofNat];exact Nat.mod_eq_of_lt (by omega)
 rw[e,h0,hn,wrap_i64]<;>omega
def nB(d n:Nat)(b:Bool):Nat:=if b then d|||2^n else d^^^(d&&& 2^n)
theorem Ju {d n:Nat}(b:Bool)(hd:d<4294967296)(hn:n<32):nB d n b<4294967296:=by
 have hp:2^n<2^32:=Nat.pow_lt_pow_right (by omega) hn
 unfold nB
 split
 ·exact KW d n hd hn
 ·exact Nat.xor_lt_two_pow (n:=32) (by omega) (Nat.lt_of_le_of_lt Nat.and_le_left (by omega))
theorem XL(d n:Nat)(b:Bool)(hd:d<4294967296)(hn:n<32):bf ((d:Int),(n:Int),b,())=some (((nB d n b:Nat):Int),(0:Int),()):=by
 have hp:2^n<2^32:=Nat.pow_lt_pow_right (by omega) hn
 have h1:aI (d:Int) 0 4294967295=true:=bi.2 ⟨by omega,by omega⟩
 have h2:aI (n:Int) 0 31=true:=bi.2 ⟨by omega,by omega⟩
 have hneg:¬((n:Int)<0):=by omega
 have hs:=vp n hn
 unfold bf oA mU
 simp only[lp,h1,h2,Bool.not_true]
 cases b with
 |true=>
  simp only[if_neg hneg,hs,Pn d (2^n) (by omega) (by omega)]
  rfl
 |false=>
  unfold CH
  simp only[if_neg hneg,hs,S7 d (2^n) (by omega) (by omega)]
  rfl
theorem XM(d n:Nat)(b:Bool)(hd:d<4294967296)(hn:n<32):g9 ((d:Int),(n:Int),b,())=some (((nB d n b:Nat):Int),()):=by
 have hp:2^n<2^32:=Nat.pow_lt_pow_right (by omega) hn
 have hu:IntKind.u64.wrap (n:Int)=(n:Int):=Jb (by omega)
 have hneg:¬((n:Int)<0):=by omega
 have hs:=vp n hn
 have hh:kQ ((d:Int),(n:Int),())=some (l8 d n,()):=M4 d n hd hn
 rw[Gv]at hh
 have hx:=r9 d (2^n) (by omega) (by omega)
 unfold g9 nB
 simp only[hh,hu,if_neg hneg,hs,hx]
 cases ht:d.testBit n<;>cases b<;>simp only[beq_self_eq_true,Bool.false_eq_true,if_false,if_true,show(false==true)=false from rfl,show(true==false)=false from rfl]<;>congr 3<;>apply Nat.eq_of_testBit_eq<;>intro i<;>simp only[Nat.testBit_xor,Nat.testBit_and,Nat.testBit_or,Nat.testBit_two_pow]<;>by_cases hi:n=i
 all_goals first|(subst hi;simp[ht];done)|(simp[hi];done)
def K5(st:ab.T)(dur slots dn:Int):ab.T:=match(IntKind.i64.wrap (st.2.2.2.1+(1:Int))==slots)with
 |true=>(Int.tmod (IntKind.i64.wrap (st.1+dur)) 65536,st.2.1,Int.tmod (IntKind.i64.wrap (st.2.2.1+(1:Int))) dn,(0:Int),st.2.2.2.2.1,())
 |false=>(Int.tmod (IntKind.i64.wrap (st.1+dur)) 65536,st.2.1,st.2.2.1,IntKind.i64.wrap (st.2.2.2.1+(1:Int)),st.2.2.2.2.1,())
theorem Yd(st:ab.T)(dur slots dn:Int)(hr:1≤dn):kW (st,dur,slots,dn,())=some (K5 st dur slots dn,()):=by
 have h0:¬dn=0:=by omega
 unfold kW K5
 simp only[if_neg h0]
 cases IntKind.i64.wrap (st.2.2.2.1+(1:Int))==slots<;>rfl
theorem Ye(st:ab.T)(dur slots dn:Int)(hst:bU st=true)(hd:0≤dur∧dur≤65535)(hs:1≤slots∧slots≤256)(hr:1≤dn∧dn≤16)(h1:st.2.2.2.1<slots)(h2:st.2.2.1<dn):fX (st,dur,slots,dn,())=some (K5 st dur slots dn,(0:Int),()):=by
 have e0:eN ((st.1,st.2.1,st.2.2.1,st.2.2.2.1,st.2.2.2.2.1,()),())=some (true,()):=by rw[←hst];exact De (st,())
 have i1:aI dur 0 65535=true:=bi.2 hd
 have i2:aI slots 1 256=true:=bi.2 hs
 have i3:aI dn 1 16=true:=bi.2 hr
 have h0:¬dn=0:=by omega
 have n1:¬st.2.2.2.1≥slots:=Int.not_le.2 h1
 have n2:¬st.2.2.1≥dn:=Int.not_le.2 h2
 unfold fX K5
 simp only[e0,lp,i1,i2,i3,Bool.not_true,decide_eq_false n1,decide_eq_false n2,if_neg h0]
 cases IntKind.i64.wrap (st.2.2.2.1+(1:Int))==slots<;>rfl
theorem WJ {m:ag.T}{st:ab.T}(h:bD m=true)(hb:aJ m st=true):∃(a:Nat) (ha:a<m.2.2.1.length),st.2.1=(a:Int)∧0≤st.2.2.1∧st.2.2.1<m.2.2.1[a].1∧0≤st.2.2.2.1∧st.2.2.2.1<m.2.2.1[a].2.1∧(1≤m.2.2.1[a].1∧m.2.2.1[a].1≤16)∧(1≤m.2.2.1[a].2.1∧m.2.2.1[a].2.1≤256):=by
 obtain⟨_,hn,hm,hs,_⟩:=lR h
 have hg:=(fk hm).2
 unfold aJ at hb
 rw[Bool.and_eq_true]at hb
 obtain⟨a,b,c,d,ea,eb,ec,ed,ha,hb',hc',hd⟩:=ub hb.1
 have hb2:=hb.2
 rw[ea,eb,ec,ed]at hb2
 rw[Int.toNat_natCast]at hb2
 by_cases hal:a<m.2.2.1.length
 ·simp only[List.getElem?_eq_getElem hal,Bool.and_eq_true,decide_eq_true_eq]at hb2
  have hgi:=hg _ (List.getElem_mem hal)
  obtain⟨h1,h2,_⟩:=hb2
  exact⟨a,hal,ea,by rw[eb];exact Int.natCast_nonneg _,by rw[eb];exact h1,by rw[ec];exact Int.natCast_nonneg _,by rw[ec];exact h2,⟨hgi.1.1,Int.le_trans hgi.1.2 (by decide)⟩,⟨hgi.2.1,Int.le_trans hgi.2.2 (by decide)⟩⟩
 ·simp only[List.getElem?_eq_none (Nat.not_lt.1 hal)]at hb2
  cases hb2
def iK(st:ab.T)(d:Int):ab.T:=(st.1,st.2.1,st.2.2.1,st.2.2.2.1,d,())
def Jv(m:ag.T)(st:ab.T)(d:Int):ab.T:=match m.2.2.1[st.2.1.toNat]? with
 |none=>st
 |some v=>K5 (iK st d) (bP m st).2.2.2.1 v.2.1 v.1
theorem yO {d:aZ.T}(h:jR d=true):∃D:Nat,d.2.2.2.1=(D:Int)∧D≤1000:=by
 obtain⟨(a:Int),(k:Int),(n:Int),(t:Int),(c:Bool),⟨⟩⟩:=d
 unfold jR at h
 simp only[Bool.and_eq_true]at h
 obtain⟨_,h2,h3,_,h5⟩:=h
 have hsz:=ua h3
 have hbn:=yI k n hsz.1 hsz.2
 have h5:=bi.1 h5
 have hc:t8 k n=11+10*(jQ k n+3):=rfl
 rw[hc]at h5
 generalize jQ k n=bn at hbn h5
 have hw:IntKind.i64.wrap (11+10*(bn+3)+20)=11+10*(bn+3)+20:=by rw[wrap_i64]<;>omega
 rw[hw]at h5
 exact⟨t.toNat,(Int.toNat_of_nonneg (show(0:Int)≤t by omega)).symm,by omega⟩
theorem LQ(m:ag.T)(st:ab.T)(d:Nat)(h:bD m=true)(hb:aJ m st=true)(hd:d<4294967296):
  jC (m,iK st (d:Int),())=some (Jv m st (d:Int),())∧be (m,iK st (d:Int),())=some (Jv m st (d:Int),()):=by
 obtain⟨a,ha,ea,b0,b1,c0,c1,hr,hs⟩:=WJ h hb
 obtain⟨q1,q2,q3⟩:=fA m st h hb
 obtain⟨D,hD,hD2⟩:=yO q3
 have q1:cG (m,iK st (d:Int),())=some (bP m st,()):=q1
 have q2:a9z (m,iK st (d:Int),())=some (bP m st,()):=q2
 have hst:bU (iK st (d:Int))=true:=by
  have h0:=vq hb
  unfold bU at h0 ⊢
  simp only[Bool.and_eq_true]at h0 ⊢
  exact⟨h0.1,bi.2 ⟨by show(0:Int)≤(d:Int);omega,by show(d:Int)≤4294967295;omega⟩⟩
 have hi:aw m.2.2.1 st.2.1=some m.2.2.1[a]:=by rw[ea];exact am ha
 have hn:Jv m st (d:Int)=K5 (iK st (d:Int)) (D:Int) m.2.2.1[a].2.1 m.2.2.1[a].1:=by
  unfold Jv
  rw[ea,Int.toNat_natCast,List.getElem?_eq_getElem ha,hD]
 have a1:=Yd (iK st (d:Int)) (D:Int) m.2.2.1[a].2.1 m.2.2.1[a].1 hr.1
 have a2:=Ye (iK st (d:Int)) (D:Int) m.2.2.1[a].2.1 m.2.2.1[a].1 hst ⟨by omega,by omega⟩ hs hr c1 b1
 have e1:jC (m,iK st (d:Int),())=aa (aw m.2.2.1 st.2.1) fun v1=>aa (aw m.2.2.1 st.2.1) fun v2=>match cG (m,iK st (d:Int),())with
  |none=>none
  |some v3=>match kW (iK st (d:Int),v3.1.2.2.2.1,v1.2.1,v2.1,())with
   |none=>none
   |some v4=>some (v4.1,()):=rfl
 have e2:be (m,iK st (d:Int),())=aa (aw m.2.2.1 st.2.1) fun v1=>aU (match a9z (m,iK st (d:Int),())with
  |none=>none
  |some v2=>aL (match fX (iK st (d:Int),v2.1.2.2.2.1,v1.2.1,v1.1,())with
   |none=>none
   |some v3=>some (v3.1,()))) (match a9z (m,iK st (d:Int),())with
  |none=>none
  |some v2=>match fX (iK st (d:Int),v2.1.2.2.2.1,v1.2.1,v1.1,())with
   |none=>none
   |some v3=>some (v3.1,())):=rfl
 rw[e1,e2,hi,q1,q2]
 simp only[aa,hD,a1,a2,dY,cS,hn]
 exact⟨trivial,trivial⟩
end Go.Proofs.YthfgmmmeplanbaaGreatDoor
namespace Go.Proofs.YthfgmmmeplanbaaGreatDoor
open Go.RowKit
set_option linter.unusedVariables false
set_option linter.unusedSimpArgs false
theorem nb {b:Bool}(h:b=false):¬b=true:=by rw[h];decide
def bw(m:ag.T)(st:ab.T)(fill req:Int):aG.T:=((bP m st).2.1,req,(if((bP m st).2.1 != (0:Int))=true then st else eC),List.replicate (bP m st).2.2.1.toNat fill,())
theorem C0 {d:aZ.T}(h:jR d=true):∃k:Nat,d.2.2.1=(k:Int)∧k≤1000:=by
 unfold jR at h
 simp only[Bool.and_eq_true]at h
 have hsz:=ua h.2.2.1
 obtain⟨z0,z1⟩:=hsz
 have e:((d.2.2.1.toNat:Nat):Int)=d.2.2.1:=Int.toNat_of_nonneg z0
 have h2:((d.2.2.1.toNat:Nat):Int)≤1000:=by rw[e];exact z1
 exact⟨d.2.2.1.toNat,e.symm,by omega⟩
theorem yP {m:ag.T}{st:ab.T}(h:bD m=true)(hb:aJ m st=true)(fill req:Int):(bw m st fill req).2.2.2.1.length≤1000:=by
 obtain⟨_,_,hq⟩:=fA m st h hb
 obtain⟨k,hk,hk2⟩:=C0 hq
 show(List.replicate (bP m st).2.2.1.toNat fill).length≤1000
 rw[hk,List.length_replicate]
 omega
theorem PD(m:ag.T)(st:ab.T)(fill req:Int)(h:bD m=true)(hb:aJ m st=true):rJ (m,st,fill,req,())=some (bw m st fill req,()):=by
 obtain⟨hd,_,hq⟩:=fA m st h hb
 obtain⟨k,hk,hk2⟩:=C0 hq
 have he:=se k fill (by omega)
 have hst:∀z:Int,dR (z,())=some ((z != (0:Int)),()):=fun z=>rfl
 unfold rJ bw
 simp only[hd,hk,he,hst,Int.toNat_natCast,dY,cS]
 cases ((bP m st).2.1 != (0:Int))<;>rfl
theorem RQ(q:Int)(m0:ag.T)(st0:ab.T)(z:aG.T)(a b:Int)(s:ab.T)(n:Nat)(hn:n≤1000):∀(k i:Nat) (l:List Int),i+k=n→l.length=n→(∀j (hj:j<l.length),j<i→l[j]=q)→
  ac dX (q,m0,st0,z,(a,b,s,l,()),(n:Int),(i:Int),())=some (.inl (m0,st0,z,(a,b,s,List.replicate n q,()),()))
 |0,i,l,hi,hl,hq=>by
  have hi:i=n:=by omega
  subst hi
  have e:l=List.replicate i q:=by
   apply List.ext_getElem
   ·rw[hl,List.length_replicate]
   ·intro j h1 h2
    rw[hq j h1 (by omega),List.getElem_replicate]
  subst e
  rw[an]
  simp only[dX,aK]
 |k+1,i,l,hi,hl,hq=>by
  have hlt:i<l.length:=by omega
  have hlt2:i<n:=by omega
  have ih:=RQ q m0 st0 z a b s n hn k (i+1) (l.set i q) (by omega) (by rw[List.length_set];exact hl) (fun j hj h1=>by
   rw[List.getElem_set]
   split
   ·rfl
   ·exact hq j (by simpa using hj) (by omega))
  have hnx:IntKind.i64.wrap ((i:Int)+1)=((i+1:Nat):Int):=by rw[wrap_i64]<;>omega
  have hget:l[i]? =some l[i]:=List.getElem?_eq_getElem hlt
  rw[an]
  simp only[dX,aM hlt2,am hlt,aa,Int.toNat_natCast,hget,hnx]
  exact ih
theorem K6(m:ag.T)(st:ab.T)(hz:d4 m):dV (m,st,())=some ((match bD m with|false=>1|true=>match aJ m st with|false=>2|true=>0:Int),()):=by
 have hM:jN (m,())=_:=Pp m hz
 have e1:dV (m,st,())=match jN (m,())with
  |none=>none
  |some v1=>match(!v1.1)with
   |true=>some ((1:Int),())
   |false=>match le (m,st,())with
    |none=>none
    |some v2=>match(!v2.1)with
     |true=>some ((2:Int),())
     |false=>some ((0:Int),()):=rfl
 rw[e1,hM]
 rcases Bool.eq_false_or_eq_true (bD m)with h1|h1<;>simp only[h1,Bool.not_true,Bool.not_false]
 have hB:=SW m st h1
 simp only[hB]
 rcases Bool.eq_false_or_eq_true (aJ m st)with h2|h2<;>simp only[h2,Bool.not_true,Bool.not_false]
theorem WK(m:ag.T)(st:ab.T)(hz:d4 m):uN (m,st,())=some ((match bD m with|false=>1|true=>match aJ m st with|false=>2|true=>0:Int),()):=by
 have hM:pc (m,())=_:=XC m hz
 have e1:uN (m,st,())=match pc (m,())with
  |none=>none
  |some v1=>match(!v1.1)with
   |true=>some ((1:Int),())
   |false=>match kT (m,st,())with
    |none=>none
    |some v2=>match(!v2.1)with
     |true=>some ((2:Int),())
     |false=>some ((0:Int),()):=rfl
 rw[e1,hM]
 rcases Bool.eq_false_or_eq_true (bD m)with h1|h1<;>simp only[h1,Bool.not_true,Bool.not_false]
 have hB:=Ya m st h1
 simp only[hB]
 rcases Bool.eq_false_or_eq_true (aJ m st)with h2|h2<;>simp only[h2,Bool.not_true,Bool.not_false]
theorem Vq(d:aZ.T)(st:ab.T)(k:Nat)(hk:d.2.2.1=(k:Int))(hk2:k≤1000):jw (d,st,())=some ((d.2.1,(0:Int),(if(d.2.1 != (0:Int))=true then st else eC),List.replicate k (0:Int),()),()):=by
 have hst:∀z:Int,dU (z,())=some ((z != (0:Int)),()):=fun z=>rfl
 unfold jw
 simp only[hst,hk,Int.toNat_natCast]
 have hk0:(0:Int)≤(k:Int)∧(k:Int)≤(k:Int):=⟨by omega,by omega⟩
 simp only[if_pos hk0]
 rw[aE (by omega),aE (by omega)]
 simp only[dY,cS]
 cases (d.2.1 != (0:Int))<;>rfl
theorem Jw(m:ag.T)(st:ab.T)(fill req:Int)(hz:d4 m)(h:bD m=true)(hb:aJ m st=true)(hf:aI fill 0 255=true)(hq:aI req 0 7=true):
  rS (m,st,fill,req,())=some (if cQ m st (bw m st fill req)=true then(bw m st fill req,(0:Int),())else(dy,(5:Int),())):=by
 obtain⟨_,hd,hqd⟩:=fA m st h hb
 obtain⟨k,hk,hk2⟩:=C0 hqd
 have hl:=K6 m st hz
 rw[h,hb]at hl
 have he:=Vq (bP m st) st k hk hk2
 have hl9:=RQ fill m st dy (bP m st).2.1 req (if((bP m st).2.1 != (0:Int))=true then st else eC) k hk2 k 0 (List.replicate k (0:Int)) (by omega) (by simp) (fun j hj h1=>by omega)
 have hfl:=yP h hb fill req
 have hs:=Ux m st (bw m st fill req) h hb (by omega)
 have hfr:bw m st fill req=((bP m st).2.1,req,(if((bP m st).2.1 != (0:Int))=true then st else eC),List.replicate k fill,()):=by
  unfold bw
  rw[hk,Int.toNat_natCast]
 rw[hfr]at hs ⊢
 have k0:((0:Int) != 0)=false:=rfl
 have hlen:((List.replicate k (0:Int)).length:Int)=(k:Int):=by rw[List.length_replicate]
 have hl9:ac dX (fill,m,st,((0:Int),(0:Int),((0:Int),(0:Int),(0:Int),(0:Int),(0:Int),()),([]:List Int),()),((bP m st).2.1,req,(if((bP m st).2.1 != (0:Int))=true then st else eC),List.replicate k (0:Int),()),(k:Int),(0:Int),())=_:=hl9
 have hl:dV (m,st,())=some ((0:Int),()):=hl
 unfold rS
 simp only[hl,k0,lp,hf,hq,Bool.not_true,hd,he,hlen,hl9,hs]
 cases cQ m st ((bP m st).2.1,req,(if((bP m st).2.1 != (0:Int))=true then st else eC),List.replicate k fill,())<;>simp only[Bool.not_true,Bool.not_false,cS,dY,if_true,Bool.false_eq_true,if_false]<;>rfl
noncomputable def fF(m:ag.T)(st:ab.T)(x:aH.T):List Int:=
 if cQ m st (bw m st x.1 x.2.1)=true then dL (eU m st (bw m st x.1 x.2.1))
 else if cQ m st (bw m st x.1 0)=true then dL (eU m st (bw m st x.1 0))
 else List.replicate (8*(bP m st).2.2.2.1.toNat) 1
theorem GE {m:ag.T}{st:ab.T}{f:aG.T}(h:bD m=true)(hb:aJ m st=true)(hs:cQ m st f=true):gk m st f=0:=by
 unfold gk
 rw[h,hb,hs]
theorem WL(m:ag.T)(st:ab.T)(x:aH.T)(hz:d4 m)(h:bD m=true)(hb:aJ m st=true)(hx:aI x.1 0 255=true)(hq:aI x.2.1 0 7=true):I1 (m,st,x,())=some (fF m st x,()):=by
 obtain⟨_,hd,hqd⟩:=fA m st h hb
 obtain⟨D,hD,hD2⟩:=yO hqd
 have hl:=K6 m st hz
 rw[h,hb]at hl
 have hl:dV (m,st,())=some ((0:Int),()):=hl
 have f1:=Jw m st x.1 x.2.1 hz h hb hx hq
 have f2:=Jw m st x.1 0 hz h hb hx (by decide)
 have k0:((0:Int) != 0)=false:=rfl
 have k1:((0:Int)==0)=true:=rfl
 have k5:((5:Int)==0)=false:=rfl
 have hw:IntKind.i64.wrap ((8:Int)*(D:Int))=((8*D:Nat):Int):=by rw[wrap_i64]<;>omega
 have hh:=yM (8*D) (by omega)
 have sl:oI (m,st,())=some (List.replicate (8*D) (1:Int),(0:Int),()):=by
  unfold oI
  simp only[hl,k0,hd,hD,hw,hh]
 have two:([x.2.1,(0:Int)].length:Int)=2:=rfl
 have i0:aw [x.2.1,(0:Int)] (0:Int)=some x.2.1:=rfl
 have i1:aw [x.2.1,(0:Int)] (1:Int)=some (0:Int):=rfl
 have g0: [x.2.1,(0:Int)][(0:Int).toNat]? =some x.2.1:=rfl
 have g1: [x.2.1,(0:Int)][(1:Int).toNat]? =some (0:Int):=rfl
 have n1:IntKind.i64.wrap ((0:Int)+1)=1:=by decide
 have n2:IntKind.i64.wrap ((1:Int)+1)=2:=by decide
 have d0:decide ((0:Int)<2)=true:=by decide
 have d1:decide ((1:Int)<2)=true:=by decide
 have d2:decide ((2:Int)<2)=false:=by decide
 have sent1:∀q:Int,cQ m st (bw m st x.1 q)=true→ko (m,st,bw m st x.1 q,())=some (dL (eU m st (bw m st x.1 q)),(0:Int),()):=fun q hs=>by
  have:=WI m st (bw m st x.1 q) hz (by have:=yP h hb x.1 q;omega)
  rw[if_pos (GE h hb hs)]at this
  exact this
 have key:ac f3 (m,st,x,[x.2.1,(0:Int)],(2:Int),(0:Int),())=some (if cQ m st (bw m st x.1 x.2.1)=true then .inr (dL (eU m st (bw m st x.1 x.2.1)),())else if cQ m st (bw m st x.1 0)=true then .inr (dL (eU m st (bw m st x.1 0)),())else .inl (m,st,())):=by
  rw[an]
  rcases Bool.eq_false_or_eq_true (cQ m st (bw m st x.1 x.2.1))with s1|s1
  ·rw[if_pos s1]at f1 ⊢
   simp only[f3,d0,i0,aa,g0,f1,k1,sent1 _ s1]
  ·rw[if_neg (nb s1)]at f1 ⊢
   simp only[f3,d0,i0,aa,g0,f1,k5,n1]
   rw[an]
   rcases Bool.eq_false_or_eq_true (cQ m st (bw m st x.1 0))with s2|s2
   ·rw[if_pos s2]at f2 ⊢
    simp only[f3,d1,i1,aa,g1,f2,k1,sent1 _ s2]
   ·rw[if_neg (nb s2)]at f2 ⊢
    simp only[f3,d1,i1,aa,g1,f2,k5,n2]
    rw[an]
    simp only[f3,d2]
 have key':ac f3 (m,st,x,[x.2.1,(0:Int)],([x.2.1,(0:Int)].length:Int),(0:Int),())=_:=key
 unfold I1 fF
 simp only[key']
 rcases Bool.eq_false_or_eq_true (cQ m st (bw m st x.1 x.2.1))with s1|s1
 ·rw[if_pos s1,if_pos s1]
 ·rw[if_neg (nb s1),if_neg (nb s1)]
  rcases Bool.eq_false_or_eq_true (cQ m st (bw m st x.1 0))with s2|s2
  ·rw[if_pos s2,if_pos s2]
  ·rw[if_neg (nb s2),if_neg (nb s2)]
   simp only[sl,hD,Int.toNat_natCast]
theorem WM(m:ag.T)(st:ab.T)(x:aH.T)(hz:d4 m)(h:bD m=true)(hb:aJ m st=true):ob (m,st,x,())=some (fF m st x,()):=by
 obtain⟨hd,_,hqd⟩:=fA m st h hb
 obtain⟨D,hD,hD2⟩:=yO hqd
 have f1:=PD m st x.1 x.2.1 h hb
 have f2:=PD m st x.1 0 h hb
 have hw:IntKind.i64.wrap ((8:Int)*(D:Int))=((8*D:Nat):Int):=by rw[wrap_i64]<;>omega
 have hh:=se (8*D) 1 (by omega)
 have i0:aw [x.2.1,(0:Int)] (0:Int)=some x.2.1:=rfl
 have i1:aw [x.2.1,(0:Int)] (1:Int)=some (0:Int):=rfl
 have g0: [x.2.1,(0:Int)][(0:Int).toNat]? =some x.2.1:=rfl
 have g1: [x.2.1,(0:Int)][(1:Int).toNat]? =some (0:Int):=rfl
 have n1:IntKind.i64.wrap ((0:Int)+1)=1:=by decide
 have n2:IntKind.i64.wrap ((1:Int)+1)=2:=by decide
 have d0:decide ((0:Int)<2)=true:=by decide
 have d1:decide ((1:Int)<2)=true:=by decide
 have d2:decide ((2:Int)<2)=false:=by decide
 have sb:∀q:Int,kg (m,st,bw m st x.1 q,())=some (cQ m st (bw m st x.1 q),()):=fun q=>XI m st _ h hb (by have:=yP h hb x.1 q;omega)
 have sent1:∀q:Int,cQ m st (bw m st x.1 q)=true→oa (m,st,bw m st x.1 q,())=some (eU m st (bw m st x.1 q),())∧kU (eU m st (bw m st x.1 q),())=some (dL (eU m st (bw m st x.1 q)),()):=fun q hs=>by
  have hc:=GE h hb hs
  exact⟨QY m st _ hz hc,Uw _ (by have:=(GD hc).1;omega)⟩
 have key:ac cX (m,st,x,[x.2.1,(0:Int)],(0:Int),())=some (if cQ m st (bw m st x.1 x.2.1)=true then .inr (dL (eU m st (bw m st x.1 x.2.1)),())else if cQ m st (bw m st x.1 0)=true then .inr (dL (eU m st (bw m st x.1 0)),())else .inl (m,st,())):=by
  rw[an]
  rcases Bool.eq_false_or_eq_true (cQ m st (bw m st x.1 x.2.1))with s1|s1
  ·rw[if_pos s1]
   simp only[cX,d0,i0,aa,g0,f1,sb,s1,(sent1 _ s1).1,(sent1 _ s1).2,dY]
  ·rw[if_neg (nb s1)]
   simp only[cX,d0,i0,aa,g0,f1,sb,s1,n1,dY]
   rw[an]
   rcases Bool.eq_false_or_eq_true (cQ m st (bw m st x.1 0))with s2|s2
   ·rw[if_pos s2]
    simp only[cX,d1,i1,aa,g1,f2,sb,s2,(sent1 _ s2).1,(sent1 _ s2).2,dY]
   ·rw[if_neg (nb s2)]
    simp only[cX,d1,i1,aa,g1,f2,sb,s2,n2,dY]
    rw[an]
    simp only[cX,d2]
 unfold ob fF
 simp only[key]
 rcases Bool.eq_false_or_eq_true (cQ m st (bw m st x.1 x.2.1))with s1|s1
 ·rw[if_pos s1,if_pos s1]
 ·rw[if_neg (nb s1),if_neg (nb s1)]
  rcases Bool.eq_false_or_eq_true (cQ m st (bw m st x.1 0))with s2|s2
  ·rw[if_pos s2,if_pos s2]
  ·rw[if_neg (nb s2),if_neg (nb s2)]
   simp only[hd,hD,hw,hh,Int.toNat_natCast]
end Go.Proofs.YthfgmmmeplanbaaGreatDoor
namespace Go.Proofs.YthfgmmmeplanbaaGreatDoor
open Go.RowKit
set_option linter.unusedVariables false
set_option linter.unusedSimpArgs false
theorem Vr {l:List Int}(h:bv l=true):∀v ∈ l,v=0∨v=1:=by
 intro v hv
 obtain⟨i,hi,rfl⟩:=List.getElem_of_mem hv
 exact tU h hi
theorem K7 {l:List Int}(h1:l.length≤8192)(h2:∀v ∈ l,v=0∨v=1):bv l=true:=Ru h1 fun i hi=>h2 _ (List.getElem_mem hi)
theorem Uz {g:Int→Int}(hg:∀v,v=0∨v=1→g v=0∨g v=1):∀(k i:Nat) (l:List Int),(∀v ∈ l,v=0∨v=1)→i+k≤l.length→∀v ∈ chg g k i l,v=0∨v=1
 |0,i,l,h,_=>h
 |k+1,i,l,h,hi=>by
  rw[chg]
  refine Uz hg k (i+1) _ (fun v hv=> ?_) (by rw[List.length_set];omega)
  rcases List.mem_or_eq_of_mem_set hv with hv|rfl
  ·exact h v hv
  ·refine hg _ (h _ ?_)
   have hlt:i<l.length:=by omega
   rw[List.getD_eq_getElem?_getD,List.getElem?_eq_getElem hlt]
   exact List.getElem_mem hlt
theorem Dr {g:Int→Int}(hg:∀v,v=0∨v=1→g v=0∨g v=1){l:List Int}(h:∀v ∈ l,v=0∨v=1)(a b:Nat):∀v ∈ ue g l a b,v=0∨v=1:=by
 unfold ue
 by_cases hab:min a l.length≤min b l.length
 ·exact Uz hg _ _ l h (by omega)
 ·have:min b l.length-min a l.length=0:=by omega
  rw[this]
  exact h
theorem RS:∀v,v=0∨v=1→vt v=0∨vt v=1:=by
 rintro v (rfl|rfl)
 ·exact .inr (by decide)
 ·exact .inl (by decide)
theorem UA {k a c v:Int}(h:eV (k,a,c,v,())=true):(k=4∨k=6)→v=0∨v=1:=by
 intro hk
 unfold eV at h
 simp only[Bool.and_eq_true]at h
 have h4:=h.2.2.2
 have hv:CY k=true:=by
  unfold CY
  rcases hk with rfl|rfl<;>rfl
 rw[hv]at h4
 have:=bi.1 h4
 omega
theorem S8 {l:List Int}{f:al.T}(h:bv l=true)(hf:eV f=true):bv (fJ l f)=true:=by
 have h01:=Vr h
 refine K7 (vu l (cN h) f) ?_
 obtain⟨(k:Int),(a:Int),(c:Int),(v:Int),⟨⟩⟩:=f
 obtain⟨hk,_,_⟩:=vR hf
 have hv:=UA hf
 unfold fJ
 split
 ·exact Dr RS h01 _ _
 ·split
  ·exact Dr RS h01 _ _
  ·split
   ·intro u hu
    rcases List.mem_append.1 hu with hu|hu
    ·exact h01 u (List.mem_of_mem_take hu)
    ·exact h01 u (List.mem_of_mem_drop hu)
   ·split
    ·rename_i h4
     have h4:k=4:=h4
     intro u hu
     have hu:=List.mem_of_mem_take hu
     split at hu
     ·rcases List.mem_append.1 hu with hu|hu
      ·rcases List.mem_append.1 hu with hu|hu
       ·exact h01 u (List.mem_of_mem_take hu)
       ·rw[List.mem_replicate]at hu
        rw[hu.2]
        exact hv (.inl h4)
      ·exact h01 u (List.mem_of_mem_drop hu)
     ·exact h01 u hu
    ·split
     ·exact Dr (fun _ _=>.inr rfl) h01 _ _
     ·rename_i n1 n2 n3 n4 n5
      have h6:k=6:=by
       have n1:¬k=1:=n1
       have n2:¬k=2:=n2
       have n3:¬k=3:=n3
       have n4:¬k=4:=n4
       have n5:¬k=5:=n5
       omega
      exact Dr (fun _ _=>hv (.inr h6)) h01 _ _
theorem ku {s:List al.T}(hs:ep s=true){l:List Int}(h:bv l=true):bv (es l s)=true:=by
 have hall:∀f ∈ s,eV f=true:=by
  unfold ep at hs
  simp only[Bool.and_eq_true,List.all_eq_true]at hs
  exact fun f hf=>by first|exact hs.1 f hf|exact hs.2 f hf
 exact nz (P:=fun z:List Int=>bv z=true) s l (fun z f hf hz=>S8 hz (hall f hf)) h
theorem C1 {m:ag.T}{st:ab.T}(x:aH.T)(h:bD m=true)(hb:aJ m st=true):bv (fF m st x)=true:=by
 obtain⟨_,_,hqd⟩:=fA m st h hb
 obtain⟨D,hD,hD2⟩:=yO hqd
 have cells:∀f,cQ m st f=true→bv (dL (eU m st f))=true:=fun f hs=>by
  obtain⟨c1,c2⟩:=GD (GE h hb hs)
  refine K7 (by rw[QW];omega) fun v hv=> ?_
  unfold dL at hv
  obtain⟨c,hc,hv⟩:=List.mem_flatMap.1 hv
  rw[List.mem_replicate]at hv
  rw[hv.2]
  exact c2 c hc
 unfold fF
 split
 ·exact cells _ (by assumption)
 ·split
  ·exact cells _ (by assumption)
  ·refine K7 (by rw[hD,Int.toNat_natCast,List.length_replicate];omega) fun v hv=> ?_
   rw[List.mem_replicate]at hv
   exact .inr hv.2
noncomputable def jf(x:aH.T):Bool:=aI x.1 0 255&&aI x.2.1 0 7&&ep x.2.2.1&&ep x.2.2.2.1
def qo(x:aH.T):Prop:=x.2.2.1.length≤1099511627776∧x.2.2.2.1.length≤1099511627776
theorem WN(x:aH.T)(h:qo x):yj (x,())=some (jf x,()):=by
 unfold yj jf
 simp only[iv,LN x.2.2.1 h.1,LN x.2.2.2.1 h.2]
 cases aI x.1 0 255<;>cases aI x.2.1 0 7<;>cases ep x.2.2.1<;>cases ep x.2.2.2.1<;>rfl
theorem WO(x:aH.T)(h:qo x):tG (x,())=some (jf x,()):=by
 unfold tG jf
 simp only[lp,LO x.2.2.1 h.1,LO x.2.2.2.1 h.2]
 cases aI x.1 0 255<;>cases aI x.2.1 0 7<;>cases ep x.2.2.1<;>cases ep x.2.2.2.1<;>rfl
noncomputable def iL(m:ag.T)(st:ab.T)(l:List aH.T):Int:=match bD m with
 |false=>1
 |true=>match aJ m st with
  |false=>2
  |true=>if(l.length:Int)>40 then 3 else if l.all jf then 0 else 5
theorem Vs(m:ag.T)(st:ab.T)(l:List aH.T)(hz:d4 m)(hl:l.length≤1048576)(hs:∀x ∈ l,qo x):pw (m,st,l,())=some (iL m st l,()):=by
 have hk:=K6 m st hz
 have hc:=MV l (Nat.le_trans hl (by omega)) mK (fun x=> !jf x) (fun i h=>by
  have hf:=WO l[i] (hs _ (List.getElem_mem h))
  have e0:mK (l[i],())=match tG (l[i],())with
   |none=>none
   |some v1=>some ((!v1.1),()):=rfl
  rw[e0,hf])
 have hany:l.any (fun x=> !jf x)= !l.all jf:=by rw[List.all_eq_not_any_not,Bool.not_not]
 unfold pw iL
 rcases Bool.eq_false_or_eq_true (bD m)with h1|h1<;>simp only[h1]at hk ⊢
 ·rcases Bool.eq_false_or_eq_true (aJ m st)with h2|h2<;>simp only[h2]at hk ⊢
  ·have k0:((0:Int) != 0)=false:=rfl
   simp only[hk,k0]
   by_cases h3:(l.length:Int)>40
   ·simp only[decide_eq_true h3,if_pos h3]
   ·simp only[decide_eq_false h3,if_neg h3,hc,hany]
    cases l.all jf<;>rfl
  ·have k0:((2:Int) != 0)=true:=rfl
   simp only[hk,k0]
 ·have k0:((1:Int) != 0)=true:=rfl
  simp only[hk,k0]
theorem RT(l:List aH.T)(c:Int)(hc:c≠0)(i:Nat)(hl:l.length≤1048576)(hi:i≤l.length):ac b8 (l,c,(i:Int),())=some (.inl (c,())):=by
 have hq:(c==0)=false:=by simpa using hc
 rw[an]
 by_cases h:i<l.length
 ·simp only[b8,aM h,hq]
 ·have:i=l.length:=by omega
  subst this
  simp only[b8,aK]
theorem RU(l:List aH.T)(hl:l.length≤1048576)(hs:∀x ∈ l,qo x):∀(k i:Nat),i+k=l.length→ac b8 (l,(0:Int),(i:Int),())=some (.inl ((if(l.drop i).all jf then(0:Int)else 5),()))
 |0,i,hi=>by
  have hi:i=l.length:=by omega
  subst hi
  rw[an]
  simp only[b8,aK,List.drop_length,List.all_nil,if_true]
 |k+1,i,hi=>by
  have h:i<l.length:=by omega
  have hb:=WN l[i] (hs _ (List.getElem_mem h))
  have k0:((0:Int)==0)=true:=rfl
  have ih:=RU l hl hs k (i+1) (by omega)
  have i5:=RT l 5 (by decide) (i+1) hl (by omega)
  rw[an,List.drop_eq_getElem_cons h,List.all_cons]
  simp only[b8,aM h,av h (show l.length≤1099511627776 by omega),k0,am h,aa,hb]
  cases jf l[i]
  ·simp only[Bool.not_false,Bool.false_and,Bool.false_eq_true,if_false]
   exact i5
  ·simp only[Bool.not_true,Bool.true_and]
   exact ih
theorem Vt(m:ag.T)(st:ab.T)(l:List aH.T)(hz:d4 m)(hl:l.length≤1048576)(hs:∀x ∈ l,qo x):uO (m,st,l,())=some (iL m st l,()):=by
 have hk:=WK m st hz
 have e0:=RU l hl hs l.length 0 (by omega)
 have ek:=fun c hc=>RT l c hc 0 hl (by omega)
 have e0:ac b8 (l,(0:Int),(0:Int),())=_:=e0
 rw[List.drop_zero]at e0
 have e1:ac b8 (l,(1:Int),(0:Int),())=_:=ek 1 (by decide)
 have e2:ac b8 (l,(2:Int),(0:Int),())=_:=ek 2 (by decide)
 have e3:ac b8 (l,(3:Int),(0:Int),())=_:=ek 3 (by decide)
 have q0:((0:Int)==0)=true:=rfl
 have q1:((1:Int)==0)=false:=rfl
 have q2:((2:Int)==0)=false:=rfl
 unfold uO iL
 rcases Bool.eq_false_or_eq_true (bD m)with h1|h1<;>simp only[h1]at hk ⊢
 ·rcases Bool.eq_false_or_eq_true (aJ m st)with h2|h2<;>simp only[h2]at hk ⊢
  ·simp only[hk,q0]
   by_cases h3:(l.length:Int)>40
   ·simp only[decide_eq_true h3,if_pos h3,e3]
   ·simp only[decide_eq_false h3,if_neg h3,e0]
  ·simp only[hk,q2,e2]
 ·simp only[hk,q1,e1]
noncomputable def mP(m:ag.T)(st:ab.T)(x:aH.T):ba.T:=gI (ga m st (es (fF m st x) x.2.2.1)) (ga m st (es (fF m st x) x.2.2.2.1))
noncomputable def S9(m:ag.T)(st:ab.T)(x:aH.T):Int:=((nB st.2.2.2.2.1.toNat (bP m st).1.toNat ((mP m st x).1==(3:Int)):Nat):Int)
noncomputable def Jy(m:ag.T)(st:ab.T)(x:aH.T):ab.T:=Jv m st (S9 m st x)
theorem uf {m:ag.T}{st:ab.T}{l:List Int}(h:bD m=true)(hb:aJ m st=true)(hl:bv l=true):gq m st l=(ga m st l,(0:Int),()):=by
 unfold gq
 rw[h,hb,hl]
theorem Vu {m:ag.T}{st:ab.T}{l l2:List Int}(h:bD m=true)(hb:aJ m st=true)(hl:bv l=true)(hl2:bv l2=true):Dn m st l l2=(gI (ga m st l) (ga m st l2),(0:Int),()):=by
 unfold Dn
 rw[uf h hb hl,uf h hb hl2]
 rfl
theorem Jz {m:ag.T}{st:ab.T}(hb:aJ m st=true):∃d:Nat,st.2.2.2.2.1=(d:Int)∧d<4294967296:=by
 obtain⟨_,_,_,d,_,_,_,ed,_,_,_,hd⟩:=ub (vq hb)
 exact⟨d,ed,by omega⟩
theorem LR {d:aZ.T}(h:jR d=true):∃n:Nat,d.1=(n:Int)∧n<32:=by
 unfold jR at h
 simp only[Bool.and_eq_true]at h
 have hr:=bi.1 h.1
 have e:((d.1.toNat:Nat):Int)=d.1:=Int.toNat_of_nonneg hr.1
 have h2:((d.1.toNat:Nat):Int)≤31:=by rw[e];exact hr.2
 exact⟨d.1.toNat,e.symm,by omega⟩
theorem yQ {x:aH.T}(h:jf x=true):aI x.1 0 255=true∧aI x.2.1 0 7=true∧ep x.2.2.1=true∧ep x.2.2.2.1=true:=by
 unfold jf at h
 simp only[Bool.and_eq_true]at h
 exact⟨h.1.1.1,h.1.1.2,h.1.2,h.2⟩
theorem WP(m:ag.T)(st:ab.T)(x:aH.T)(hz:d4 m)(h:bD m=true)(hb:aJ m st=true)(hx:jf x=true):rT (m,st,x,())=some (mP m st x,Jy m st x,()):=by
 obtain⟨x1,x2,x3,x4⟩:=yQ hx
 have hsb:=C1 x h hb
 have hs:=WL m st x hz h hb x1 x2
 have a1:=Pz (fF m st x) (cN hsb) x.2.2.1 x3
 have a2:=Pz (fF m st x) (cN hsb) x.2.2.2.1 x4
 have b1:=ku x3 hsb
 have b2:=ku x4 hsb
 have hr:=XE m st _ _ hz (Nat.le_trans (cN b1) (by omega)) (Nat.le_trans (cN b2) (by omega))
 rw[Vu h hb b1 b2]at hr
 obtain⟨_,hd,hqd⟩:=fA m st h hb
 obtain⟨n,hn,hn2⟩:=LR hqd
 obtain⟨d,hdd,hd2⟩:=Jz hb
 have hm:=XL d n ((mP m st x).1==(3:Int)) hd2 hn2
 have hnx:=(LQ m st _ h hb (Ju ((mP m st x).1==(3:Int)) hd2 hn2)).2
 have hv:gI (ga m st (es (fF m st x) x.2.2.1)) (ga m st (es (fF m st x) x.2.2.2.1))=mP m st x:=rfl
 rw[hv]at hr
 have hnx:be (m,(st.1,st.2.1,st.2.2.1,st.2.2.2.1,((nB d n ((mP m st x).1==(3:Int)):Nat):Int),()),())=_:=hnx
 unfold rT Jy S9
 simp only[hs,a1,a2,hr,hd,hn,hdd,hm,hnx,dY,cS,Int.toNat_natCast]
theorem WQ(m:ag.T)(st:ab.T)(x:aH.T)(hz:d4 m)(h:bD m=true)(hb:aJ m st=true)(hx:jf x=true):u6 (m,st,x,())=some (mP m st x,Jy m st x,()):=by
 obtain⟨x1,x2,x3,x4⟩:=yQ hx
 have hsb:=C1 x h hb
 have hs:=WM m st x hz h hb
 have a1:=PC (fF m st x) (cN hsb) x.2.2.1 x3
 have a2:=PC (fF m st x) (cN hsb) x.2.2.2.1 x4
 have b1:=ku x3 hsb
 have b2:=ku x4 hsb
 obtain⟨c1,r1⟩:=Uo m st _ h hb b1
 obtain⟨c2,r2⟩:=Uo m st _ h hb b2
 have hdat:(Dl (ga m st (es (fF m st x) x.2.2.1))).length≤1099511627776:=by
  have:=nA m st (es (fF m st x) x.2.2.1)
  rw[uf h hb b1]at this
  exact Nat.le_trans this (by omega)
 have hr:=WD (ga m st (es (fF m st x) x.2.2.1)) (ga m st (es (fF m st x) x.2.2.2.1)) hdat
 obtain⟨hd,_,hqd⟩:=fA m st h hb
 obtain⟨n,hn,hn2⟩:=LR hqd
 obtain⟨d,hdd,hd2⟩:=Jz hb
 have hm:=XM d n ((mP m st x).1==(3:Int)) hd2 hn2
 have hnx:=(LQ m st _ h hb (Ju ((mP m st x).1==(3:Int)) hd2 hn2)).1
 have hv:gI (ga m st (es (fF m st x) x.2.2.1)) (ga m st (es (fF m st x) x.2.2.2.1))=mP m st x:=rfl
 rw[hv]at hr
 have hnx:jC (m,(st.1,st.2.1,st.2.2.1,st.2.2.2.1,((nB d n ((mP m st x).1==(3:Int)):Nat):Int),()),())=_:=hnx
 unfold u6 Jy S9
 simp only[hs,a1,a2,r1,r2,hr,hd,hn,hdd,hm,hnx,dY,cS,Int.toNat_natCast]
noncomputable def yR(m:ag.T)(st:ab.T)(x:aH.T):ba.T×ab.T×Int×Unit:=if iL m st [x]=0 then(mP m st x,Jy m st x,(0:Int),())else(((0:Int),dy,()),eC,iL m st [x],())
theorem K8 {m:ag.T}{st:ab.T}{l:List aH.T}(h:iL m st l=0):bD m=true∧aJ m st=true∧l.length≤40∧∀x ∈ l,jf x=true:=by
 unfold iL at h
 cases h1:bD m<;>rw[h1]at h
 ·cases h
 ·cases h2:aJ m st<;>rw[h2]at h
  ·cases h
  ·simp only at h
   split at h
   ·cases h
   ·split at h
    ·rename_i h3 h4
     exact⟨rfl,rfl,by omega,fun x hx=>List.all_eq_true.1 h4 x hx⟩
    ·cases h
theorem WR(m:ag.T)(st:ab.T)(x:aH.T)(hz:d4 m)(hs:qo x):bW (m,st,x,())=some (yR m st x):=by
 have hc:=Vs m st [x] hz (by simp) (fun y hy=>(by simpa using hy:y=x)▸hs)
 unfold bW yR
 simp only[hc]
 by_cases h:iL m st [x]=0
 ·obtain⟨h1,h2,_,h3⟩:=K8 h
  have hk:=WP m st x hz h1 h2 (h3 x (by simp))
  have k0:(iL m st [x] != 0)=false:=by rw[h];rfl
  rw[if_pos h]
  simp only[k0,hk]
 ·have k0:(iL m st [x] != 0)=true:=by simpa using h
  rw[if_neg h]
  simp only[k0]
  rfl
theorem WS(m:ag.T)(st:ab.T)(x:aH.T)(hz:d4 m)(hs:qo x):dq (m,st,x,())=some (yR m st x):=by
 have hc:=Vt m st [x] hz (by simp) (fun y hy=>(by simpa using hy:y=x)▸hs)
 unfold dq yR
 simp only[hc]
 by_cases h:iL m st [x]=0
 ·obtain⟨h1,h2,_,h3⟩:=K8 h
  have hk:=WQ m st x hz h1 h2 (h3 x (by simp))
  have k0:(iL m st [x] != 0)=false:=by rw[h];rfl
  rw[if_pos h]
  simp only[k0,hk]
 ·have k0:(iL m st [x] != 0)=true:=by simpa using h
  rw[if_neg h]
  simp only[k0]
  rfl
end Go.Proofs.YthfgmmmeplanbaaGreatDoor
namespace Go.Proofs.YthfgmmmeplanbaaGreatDoor
open Go.RowKit
set_option linter.unusedVariables false
set_option linter.unusedSimpArgs false
theorem Vv(m:ag.T)(hx:Wf ag m):∃y:Int,o7 (m,(1048576:Int),())=some (y,())∧y≤1048576∧(0≤y→qn m):=by
 obtain⟨y,hy,hs⟩:=WB m hx
 refine⟨y,hy, ?_,hs⟩
 have w1:m.2.1.length≤maxLen:=hx.2.1.1
 have w2:∀v ∈ m.2.1,v.2.1.length≤maxLen:=fun v hv=>(hx.2.1.2 v hv).2.1
 have w3:m.2.2.1.length≤maxLen:=hx.2.2.1.1
 have w4:∀v ∈ m.2.2.1,v.2.2.1.length≤maxLen:=fun v hv=>(hx.2.2.1.2 v hv).2.2.1.1
 have w5:m.2.2.2.1.length≤maxLen:=hx.2.2.2.1.1
 obtain⟨a,ea,a1,a2⟩:=Pr m.2.1 w1 w2 1048576 (by omega) (by omega)
 unfold o7 at hy
 simp only[ea]at hy
 by_cases ca:a<0
 ·simp only[decide_eq_true ca]at hy
  have:y= -1:=by cases hy;rfl
  omega
 ·obtain⟨b,eb,b1,b2⟩:=Ps m.2.2.1 w3 w4 a (by omega) (by omega)
  simp only[decide_eq_false ca,eb]at hy
  by_cases cb:b<0
  ·simp only[decide_eq_true cb]at hy
   have:y= -1:=by cases hy;rfl
   omega
  ·have ec:=CN (m.2.2.2.1,b,()) (show(0:Int)≤b by omega) (show b≤(1048576:Int) by omega) w5
   simp only[decide_eq_false cb,ec]at hy
   by_cases cc:b-(m.2.2.2.1.length:Int)<0
   ·simp only[if_pos cc]at hy
    have:y= -1:=by cases hy;rfl
    omega
   ·simp only[if_neg cc,decide_eq_false cc]at hy
    have:y=b-(m.2.2.2.1.length:Int):=by cases hy;rfl
    omega
theorem LS(s:List al.T)(n:Int)(h0:0≤n)(h1:n≤1048576)(hw:s.length≤maxLen):∃y:Int,lA (s,n,())=some (y,())∧y≤n∧(0≤y→(s.length:Int)≤n):=by
 have e:=TY (s,n,()) h0 h1 hw
 by_cases hc:n-(s.length:Int)<0
 ·exact⟨-1,by rw[e,if_pos hc],by omega,fun h=>by omega⟩
 ·exact⟨n-s.length,by rw[e,if_neg hc],by omega,fun h=>by omega⟩
end Go.Proofs.YthfgmmmeplanbaaGreatDoor
namespace Go.Proofs.YthfgmmmeplanbaaGreatDoor
open Go.RowKit
set_option linter.unusedVariables false
set_option linter.unusedSimpArgs false
theorem XN(s:aH.T)(n:Int)(h0:0≤n)(h1:n≤1048576)(w1:s.2.2.1.length≤maxLen)(w2:s.2.2.2.1.length≤maxLen):∃y:Int,o9 (s,n,())=some (y,())∧y≤n∧(0≤y→(s.2.2.1.length:Int)≤n∧(s.2.2.2.1.length:Int)≤n):=by
 obtain⟨y1,e1,b1,g1⟩:=LS s.2.2.1 n h0 h1 w1
 by_cases n1:y1<0
 ·refine⟨-1, ?_,by omega,fun h=>by omega⟩
  unfold o9
  simp only[e1,decide_eq_true n1]
 ·obtain⟨y2,e2,b2,g2⟩:=LS s.2.2.2.1 y1 (by omega) (by omega) w2
  by_cases n2:y2<0
  ·refine⟨-1, ?_,by omega,fun h=>by omega⟩
   unfold o9
   simp only[e1,decide_eq_false n1,e2,decide_eq_true n2]
  ·refine⟨y2, ?_,by omega,fun h=> ?_⟩
   ·unfold o9
    simp only[e1,decide_eq_false n1,e2,decide_eq_false n2]
   ·have:=g1 (by omega);have:=g2 (by omega);omega
def xK(s:aH.T):Prop:=s.2.2.1.length≤1048576∧s.2.2.2.1.length≤1048576
theorem PE(s:aH.T)(h:xK s):b9 (s,())=some (s,()):=by
 have h1:gL (s.2.2.1,())=some (s.2.2.1,()):=LE (s.2.2.1,()) (Nat.le_trans h.1 (by omega))
 have h2:gL (s.2.2.2.1,())=some (s.2.2.2.1,()):=LE (s.2.2.2.1,()) (Nat.le_trans h.2 (by omega))
 have e0:b9 (s,())=match gL (s.2.2.1,())with
  |none=>none
  |some v1=>match gL (s.2.2.2.1,())with
   |none=>none
   |some v2=>some ((s.1,s.2.1,v1.1,v2.1,()),()):=rfl
 rw[e0,h1]
 simp only[h2]
theorem XO(s:aH.T)(h:xK s):yz (s,s,())=some (true,()):=by
 have h1:jP (s.2.2.1,s.2.2.1,())=some (true,()):=LF _ rfl (Nat.le_trans h.1 (by omega))
 have h2:jP (s.2.2.2.1,s.2.2.2.1,())=some (true,()):=LF _ rfl (Nat.le_trans h.2 (by omega))
 unfold yz
 simp only[h1,h2,gN,Bool.not_true]
theorem Vw(s:aH.T)(h:xK s)(q:Int)(h0:0≤q)(h1:q≤1000000000000000):∃(c:Int) (s':aH.T),rU (s,q,())=some (c,s',())∧0≤c∧c≤q+10000000:=by
 have l1:=h.1
 have l2:=h.2
 have k1:ie (s.2.2.1,q,())=_:=EK (s.2.2.1,q,()) (Nat.le_trans h.1 (by omega))
 have n1:=O0 s.2.2.1 (Nat.le_trans h.1 (by omega)) q h0 (by omega)
 simp only at k1
 generalize (bM ks s.2.2.1 q).2=a1 at k1 n1
 generalize (bM ks s.2.2.1 q).1=z1 at k1
 have k2:ie (s.2.2.2.1,a1,())=_:=EK (s.2.2.2.1,a1,()) (Nat.le_trans h.2 (by omega))
 have n2:=O0 s.2.2.2.1 (Nat.le_trans h.2 (by omega)) a1 (by omega) (by omega)
 simp only at k2
 generalize (bM ks s.2.2.2.1 a1).2=a2 at k2 n2
 generalize (bM ks s.2.2.2.1 a1).1=z2 at k2
 refine⟨a2,(s.1,s.2.1,z1,z2,()), ?_,by omega,by omega⟩
 unfold rU
 simp only[k1,k2]
theorem UB(m:ag.T)(st:ab.T)(x:aH.T):(yR m st x).1.2.1.2.2.2.1.length≤32:=by
 unfold yR
 split
 ·rename_i h
  obtain⟨h1,h2,_,h3⟩:=K8 h
  obtain⟨_,_,x3,x4⟩:=yQ (h3 x (by simp))
  have hsb:=C1 x h1 h2
  have r1:=nA m st (es (fF m st x) x.2.2.1)
  have r2:=nA m st (es (fF m st x) x.2.2.2.1)
  rw[uf h1 h2 (ku x3 hsb)]at r1
  rw[uf h1 h2 (ku x4 hsb)]at r2
  exact Jq r1 r2
 ·exact Nat.zero_le _
theorem XP(v:ba.T)(s:ab.T)(c:Int)(hv:v.2.1.2.2.2.1.length≤1099511627776):aR (v,s,c,Jp v (bM df v.2.1.2.2.2.1 1).1,(bM df v.2.1.2.2.2.1 1).2,v,s,c,())=some (.inr (true,())):=by
 have q1:=Jo v hv
 have q2:gQ (s,s,())=some (true,()):=Gr _ rfl
 have h3:=z8 v v.2.1.2.2.2.1 hv
 have n3:=yC v.2.1.2.2.2.1 hv 1 (by omega) (by omega)
 have d3:decide ((bM df v.2.1.2.2.2.1 1).2<0)=false:=by simp;omega
 unfold aR
 simp only[q1,q2,h3,d3,gN,Bool.not_true]
theorem XQ(m:ag.T)(st:ab.T)(x:aH.T)(v:ba.T)(s:ab.T)(c:Int)(hm:qn m)(hs:xK x)(hv:v.2.1.2.2.2.1.length≤1099511627776)(hi:bW (m,st,x,())=some (v,s,c,())):
  cm (m,st,x,v,s,c,m,x,v,s,c,())=some (.inr (true,())):=by
 have q1:=Jo v hv
 have q2:gQ (s,s,())=some (true,()):=Gr _ rfl
 have k3:=MY v 1 hv
 have h3:=z8 v v.2.1.2.2.2.1 hv
 have n3:=yC v.2.1.2.2.2.1 hv 1 (by omega) (by omega)
 have d3:decide ((bM df v.2.1.2.2.2.1 1).2<0)=false:=by simp;omega
 have c32:=XP v s c hv
 have t1:=K1 m hm
 have t2:=PE x hs
 have t3:cq (st,())=some (st,()):=rfl
 have e1:=WC m hm
 have e2:=XO x hs
 obtain⟨a,m',ha,a0,a1⟩:=Ur m hm
 obtain⟨b,x',hb,b0,b1⟩:=Vw x hs a a0 (by omega)
 have d2:decide (b<0)=false:=decide_eq_false (by omega)
 simp only[Jp]at k3 h3 c32
 unfold cm
 simp only[q1,q2,k3,h3,d3,c32,t1,t2,t3,e1,e2,ha,hb,d2,hi,gN,Bool.not_true,cS,dY]
theorem Yf(m:ag.T)(st:ab.T)(x:aH.T)(v:ba.T)(s:ab.T)(c:Int)(hm:qn m)(hs:xK x)(hv:v.2.1.2.2.2.1.length≤1099511627776)(hi:bW (m,st,x,())=some (v,s,c,())):
  aV (m,st,x,v,s,c,())=some (.inr (true,())):=by
 have c12:=XQ m st x v s c hm hs hv hi
 have t1:=K1 m hm
 have t2:=PE x hs
 have t3:cq (st,())=some (st,()):=rfl
 unfold aV
 simp only[c12,t1,t2,t3,hi,cS,dY]
theorem PF(x)(hx:Wf (.pair ag (.pair ab (.pair aH .unit))) x):fy x=some (true,()):=by
 obtain⟨m,st,s,⟨⟩⟩:=x
 have hm:Wf ag m:=hx.1
 have w1:s.2.2.1.length≤maxLen:=hx.2.2.1.2.2.1.1
 have w2:s.2.2.2.1.length≤maxLen:=hx.2.2.1.2.2.2.1.1
 obtain⟨y1,hy1,b1,g1⟩:=Vv m hm
 by_cases n1:y1<0
 ·unfold fy
  simp only[hy1,decide_eq_true n1]
 obtain⟨y2,hy2,b2,g2⟩:=XN s y1 (by omega) b1 w1 w2
 by_cases n2:y2<0
 ·unfold fy
  simp only[hy1,decide_eq_false n1,hy2,decide_eq_true n2]
 have hsm:=g1 (by omega)
 have hz:=vQ hsm
 have hsT:xK s:=⟨by have:=(g2 (by omega)).1;omega,by have:=(g2 (by omega)).2;omega⟩
 have hsS:qo s:=⟨Nat.le_trans hsT.1 (by omega),Nat.le_trans hsT.2 (by omega)⟩
 have hi:=WR m st s hz hsS
 have hs':=WS m st s hz hsS
 have hd:=UB m st s
 generalize yR m st s=r at hi hs' hd
 obtain⟨v,s',(c:Int),⟨⟩⟩:=r
 have hd:v.2.1.2.2.2.1.length≤32:=hd
 have c9:=Yf m st s v s' c hsm hsT (Nat.le_trans hd (by omega)) hi
 have t1:=K1 m hsm
 have t2:=PE s hsT
 have t3:cq (st,())=some (st,()):=rfl
 unfold fy
 simp only[hy1,decide_eq_false n1,hy2,decide_eq_false n2,c9,t1,t2,t3,hs',cS,dY]
end Go.Proofs.YthfgmmmeplanbaaGreatDoor
