import Derived.Test.YtkgcbbkodalfmaaGreatDoorQ3
namespace Go.Proofs.YtkgcbbkodalfmaaGreatDoor
open Go.RowKit
set_option linter.unusedVariables false
set_option linter.unusedSimpArgs false
theorem U6(a b:Nat)(ha:a<9223372036854775808)(hb:b<9223372036854775808):bits .andNot .i64 (a:Int) (b:Int)=((a^^^(a&&& b):Nat):Int):=by
 have h1:BitVec.ofInt 64 (a:Int)=BitVec.ofNat 64 a:=BitVec.ofInt_natCast ..
 have h2:BitVec.ofInt 64 (b:Int)=BitVec.ofNat 64 b:=BitVec.ofInt_natCast ..
 have e:bits .andNot .i64 (a:Int) (b:Int)=IntKind.i64.wrap ((BitVec.ofNat 64 a&&& ~~~ BitVec.ofNat 64 b).toNat:Int):=by
  rw[←h1,←h2];rfl
 have hand:a&&& b<2^63:=Nat.lt_of_le_of_lt Nat.and_le_left (by omega)
 have hx:a^^^(a&&& b)<2^63:=Nat.xor_lt_two_pow (by omega) hand
 have h0:BitVec.ofNat 64 a&&& ~~~ BitVec.ofNat 64 b=BitVec.ofNat 64 (a^^^(a&&& b)):=by
  apply BitVec.eq_of_getLsbD_eq
  intro i hi
  simp only[BitVec.getLsbD_and,BitVec.getLsbD_not,BitVec.getLsbD_ofNat,hi,decide_true,Bool.true_and,Nat.testBit_xor,Nat.testBit_and]
  cases a.testBit i<;>cases b.testBit i<;>rfl
 have hn:(BitVec.ofNat 64 (a^^^(a&&& b))).toNat=a^^^(a&&& b):=by rw[BitVec.toNat_ofNat];exact Nat.mod_eq_of_lt (by omega)
 rw[e,h0,hn,wrap_i64]<;>omega
def iO(d n:Nat)(b:Bool):Nat:=if b then d|||2^n else d^^^(d&&& 2^n)
theorem AH {d n:Nat}(b:Bool)(hd:d<4294967296)(hn:n<32):iO d n b<4294967296:=by
 have hp:2^n<2^32:=Nat.pow_lt_pow_right (by omega) hn
 unfold iO
 split
 ·exact Fh d n hd hn
 ·exact Nat.xor_lt_two_pow (n:=32) (by omega) (Nat.lt_of_le_of_lt Nat.and_le_left (by omega))
theorem Z6(d n:Nat)(b:Bool)(hd:d<4294967296)(hn:n<32):bu ((d:Int),(n:Int),b,())=some (((iO d n b:Nat):Int),(0:Int),()):=by
 have hp:2^n<2^32:=Nat.pow_lt_pow_right (by omega) hn
 have h1:aS (d:Int) 0 4294967295=true:=aR.2 ⟨by omega,by omega⟩
 have h2:aS (n:Int) 0 31=true:=aR.2 ⟨by omega,by omega⟩
 have hneg:¬((n:Int)<0):=by omega
 have hs:=xe n hn
 unfold bu pS kN
 simp only[kS,h1,h2,Bool.not_true]
 cases b with
 |true=>
  simp only[if_neg hneg,hs,Rq d (2^n) (by omega) (by omega)]
  rfl
 |false=>
  unfold D3
  simp only[if_neg hneg,hs,U6 d (2^n) (by omega) (by omega)]
  rfl
theorem Z7(d n:Nat)(b:Bool)(hd:d<4294967296)(hn:n<32):iV ((d:Int),(n:Int),b,())=some (((iO d n b:Nat):Int),()):=by
 have hp:2^n<2^32:=Nat.pow_lt_pow_right (by omega) hn
 have hu:IntKind.u64.wrap (n:Int)=(n:Int):=KX (by omega)
 have hneg:¬((n:Int)<0):=by omega
 have hs:=xe n hn
 have hh:lU ((d:Int),(n:Int),())=some (mA d n,()):=Pa d n hd hn
 rw[vK]at hh
 have hx:=ur d (2^n) (by omega) (by omega)
 unfold iV iO
 simp only[hh,hu,if_neg hneg,hs,hx]
 cases ht:d.testBit n<;>cases b<;>simp only[beq_self_eq_true,Bool.false_eq_true,if_false,if_true,show(false==true)=false from rfl,show(true==false)=false from rfl]<;>congr 3<;>apply Nat.eq_of_testBit_eq<;>intro i<;>simp only[Nat.testBit_xor,Nat.testBit_and,Nat.testBit_or,Nat.testBit_two_pow]<;>by_cases hi:n=i
 all_goals first|(subst hi;simp[ht];done)|(simp[hi];done)
def qR(st:ab.T)(dur slots cg:Int):ab.T:=match(IntKind.i64.wrap (st.2.2.2.1+(1:Int))==slots)with
 |true=>(Int.tmod (IntKind.i64.wrap (st.1+dur)) 65536,st.2.1,Int.tmod (IntKind.i64.wrap (st.2.2.1+(1:Int))) cg,(0:Int),st.2.2.2.2.1,())
 |false=>(Int.tmod (IntKind.i64.wrap (st.1+dur)) 65536,st.2.1,st.2.2.1,IntKind.i64.wrap (st.2.2.2.1+(1:Int)),st.2.2.2.2.1,())
theorem aaB(st:ab.T)(dur slots cg:Int)(hr:1≤cg):mu (st,dur,slots,cg,())=some (qR st dur slots cg,()):=by
 have h0:¬cg=0:=by omega
 unfold mu qR
 simp only[if_neg h0]
 cases IntKind.i64.wrap (st.2.2.2.1+(1:Int))==slots<;>rfl
theorem aaC(st:ab.T)(dur slots cg:Int)(hst:br st=true)(hd:0≤dur∧dur≤65535)(hs:1≤slots∧slots≤256)(hr:1≤cg∧cg≤16)(h1:st.2.2.2.1<slots)(h2:st.2.2.1<cg):gy (st,dur,slots,cg,())=some (qR st dur slots cg,(0:Int),()):=by
 have e0:dl ((st.1,st.2.1,st.2.2.1,st.2.2.2.1,st.2.2.2.2.1,()),())=some (true,()):=by rw[←hst];exact uq (st,())
 have i1:aS dur 0 65535=true:=aR.2 hd
 have i2:aS slots 1 256=true:=aR.2 hs
 have i3:aS cg 1 16=true:=aR.2 hr
 have h0:¬cg=0:=by omega
 have n1:¬st.2.2.2.1≥slots:=Int.not_le.2 h1
 have n2:¬st.2.2.1≥cg:=Int.not_le.2 h2
 unfold gy qR
 simp only[e0,kS,i1,i2,i3,Bool.not_true,decide_eq_false n1,decide_eq_false n2,if_neg h0]
 cases IntKind.i64.wrap (st.2.2.2.1+(1:Int))==slots<;>rfl
theorem Fo {m:ac.T}{st:ab.T}(h:a8 m=true)(hb:aC m st=true):∃(a:Nat) (ha:a<m.2.2.1.length),st.2.1=(a:Int)∧0≤st.2.2.1∧st.2.2.1<m.2.2.1[a].1∧0≤st.2.2.2.1∧st.2.2.2.1<m.2.2.1[a].2.1∧(1≤m.2.2.1[a].1∧m.2.2.1[a].1≤16)∧(1≤m.2.2.1[a].2.1∧m.2.2.1[a].2.1≤256):=by
 obtain⟨_,hn,hm,hs,_⟩:=fo h
 have hg:=(dw hm).2
 unfold aC at hb
 rw[Bool.and_eq_true]at hb
 obtain⟨a,b,c,d,ea,eb,ec,ed,ha,hb',hc',hd⟩:=vM hb.1
 have hb2:=hb.2
 rw[ea,eb,ec,ed]at hb2
 rw[Int.toNat_natCast]at hb2
 by_cases hal:a<m.2.2.1.length
 ·simp only[List.getElem?_eq_getElem hal,Bool.and_eq_true,decide_eq_true_eq]at hb2
  have hgi:=hg _ (List.getElem_mem hal)
  obtain⟨h1,h2,_⟩:=hb2
  exact⟨a,hal,ea,by rw[eb];exact Int.natCast_nonneg _,by rw[eb];exact h1,by rw[ec];exact Int.natCast_nonneg _,by rw[ec];exact h2,⟨hgi.1.1,Int.le_trans hgi.1.2 (by decide)⟩,⟨hgi.2.1,Int.le_trans hgi.2.2 (by decide)⟩⟩
 ·simp only[List.getElem?_eq_none (Nat.not_lt.1 hal)]at hb2
  cases hb2
def jj(st:ab.T)(d:Int):ab.T:=(st.1,st.2.1,st.2.2.1,st.2.2.2.1,d,())
def Fp(m:ac.T)(st:ab.T)(d:Int):ab.T:=match m.2.2.1[st.2.1.toNat]? with
 |none=>st
 |some v=>qR (jj st d) (bL m st).2.2.2.1 v.2.1 v.1
theorem vQ {d:bf.T}(h:kU d=true):∃D:Nat,d.2.2.2.1=(D:Int)∧D≤1000:=by
 obtain⟨(a:Int),(k:Int),(n:Int),(t:Int),(c:Bool),⟨⟩⟩:=d
 unfold kU at h
 simp only[Bool.and_eq_true]at h
 obtain⟨_,h2,h3,_,h5⟩:=h
 have hsz:=vJ h3
 have hbn:=AA k n hsz.1 hsz.2
 have h5:=aR.1 h5
 have hc:vI k n=11+10*(kT k n+3):=rfl
 rw[hc]at h5
 generalize kT k n=bn at hbn h5
 have hw:IntKind.i64.wrap (11+10*(bn+3)+20)=11+10*(bn+3)+20:=by rw[wrap_i64]<;>omega
 rw[hw]at h5
 exact⟨t.toNat,(Int.toNat_of_nonneg (show(0:Int)≤t by omega)).symm,by omega⟩
theorem NQ(m:ac.T)(st:ab.T)(d:Nat)(h:a8 m=true)(hb:aC m st=true)(hd:d<4294967296):
  kD (m,jj st (d:Int),())=some (Fp m st (d:Int),())∧bo (m,jj st (d:Int),())=some (Fp m st (d:Int),()):=by
 obtain⟨a,ha,ea,b0,b1,c0,c1,hr,hs⟩:=Fo h hb
 obtain⟨q1,q2,q3⟩:=dF m st h hb
 obtain⟨D,hD,hD2⟩:=vQ q3
 have q1:cJ (m,jj st (d:Int),())=some (bL m st,()):=q1
 have q2:az (m,jj st (d:Int),())=some (bL m st,()):=q2
 have hst:br (jj st (d:Int))=true:=by
  have h0:=mB hb
  unfold br at h0 ⊢
  simp only[Bool.and_eq_true]at h0 ⊢
  exact⟨h0.1,aR.2 ⟨by show(0:Int)≤(d:Int);omega,by show(d:Int)≤4294967295;omega⟩⟩
 have hi:aq m.2.2.1 st.2.1=some m.2.2.1[a]:=by rw[ea];exact ar ha
 have hn:Fp m st (d:Int)=qR (jj st (d:Int)) (D:Int) m.2.2.1[a].2.1 m.2.2.1[a].1:=by
  unfold Fp
  rw[ea,Int.toNat_natCast,List.getElem?_eq_getElem ha,hD]
 have a1:=aaB (jj st (d:Int)) (D:Int) m.2.2.1[a].2.1 m.2.2.1[a].1 hr.1
 have a2:=aaC (jj st (d:Int)) (D:Int) m.2.2.1[a].2.1 m.2.2.1[a].1 hst ⟨by omega,by omega⟩ hs hr c1 b1
 have e1:kD (m,jj st (d:Int),())=aa (aq m.2.2.1 st.2.1) fun v1=>aa (aq m.2.2.1 st.2.1) fun v2=>match cJ (m,jj st (d:Int),())with
  |none=>none
  |some v3=>match mu (jj st (d:Int),v3.1.2.2.2.1,v1.2.1,v2.1,())with
   |none=>none
   |some v4=>some (v4.1,()):=rfl
 have e2:bo (m,jj st (d:Int),())=aa (aq m.2.2.1 st.2.1) fun v1=>aQ (match az (m,jj st (d:Int),())with
  |none=>none
  |some v2=>aI (match gy (jj st (d:Int),v2.1.2.2.2.1,v1.2.1,v1.1,())with
   |none=>none
   |some v3=>some (v3.1,()))) (match az (m,jj st (d:Int),())with
  |none=>none
  |some v2=>match gy (jj st (d:Int),v2.1.2.2.2.1,v1.2.1,v1.1,())with
   |none=>none
   |some v3=>some (v3.1,())):=rfl
 rw[e1,e2,hi,q1,q2]
 simp only[aa,hD,a1,a2,eC,bM,hn]
 exact⟨trivial,trivial⟩
end Go.Proofs.YtkgcbbkodalfmaaGreatDoor
namespace Go.Proofs.YtkgcbbkodalfmaaGreatDoor
open Go.RowKit
set_option linter.unusedVariables false
set_option linter.unusedSimpArgs false
theorem nb {b:Bool}(h:b=false):¬b=true:=by rw[h];decide
def bV(m:ac.T)(st:ab.T)(fill req:Int):aU.T:=((bL m st).2.1,req,(if((bL m st).2.1 != (0:Int))=true then st else dV),List.replicate (bL m st).2.2.1.toNat fill,())
theorem EN {d:bf.T}(h:kU d=true):∃k:Nat,d.2.2.1=(k:Int)∧k≤1000:=by
 unfold kU at h
 simp only[Bool.and_eq_true]at h
 have hsz:=vJ h.2.2.1
 obtain⟨z0,z1⟩:=hsz
 have e:((d.2.2.1.toNat:Nat):Int)=d.2.2.1:=Int.toNat_of_nonneg z0
 have h2:((d.2.2.1.toNat:Nat):Int)≤1000:=by rw[e];exact z1
 exact⟨d.2.2.1.toNat,e.symm,by omega⟩
theorem AI {m:ac.T}{st:ab.T}(h:a8 m=true)(hb:aC m st=true)(fill req:Int):(bV m st fill req).2.2.2.1.length≤1000:=by
 obtain⟨_,_,hq⟩:=dF m st h hb
 obtain⟨k,hk,hk2⟩:=EN hq
 show(List.replicate (bL m st).2.2.1.toNat fill).length≤1000
 rw[hk,List.length_replicate]
 omega
theorem RC(m:ac.T)(st:ab.T)(fill req:Int)(h:a8 m=true)(hb:aC m st=true):tZ (m,st,fill,req,())=some (bV m st fill req,()):=by
 obtain⟨hd,_,hq⟩:=dF m st h hb
 obtain⟨k,hk,hk2⟩:=EN hq
 have he:=uu k fill (by omega)
 have hst:∀z:Int,dL (z,())=some ((z != (0:Int)),()):=fun z=>rfl
 unfold tZ bV
 simp only[hd,hk,he,hst,Int.toNat_natCast,eC,bM]
 cases ((bL m st).2.1 != (0:Int))<;>rfl
theorem TZ(q:Int)(m0:ac.T)(st0:ab.T)(z:aU.T)(a b:Int)(s:ab.T)(n:Nat)(hn:n≤1000):∀(k i:Nat) (l:List Int),i+k=n→l.length=n→(∀j (hj:j<l.length),j<i→l[j]=q)→
  ag eB (q,m0,st0,z,(a,b,s,l,()),(n:Int),(i:Int),())=some (.inl (m0,st0,z,(a,b,s,List.replicate n q,()),()))
 |0,i,l,hi,hl,hq=>by
  have hi:i=n:=by omega
  subst hi
  have e:l=List.replicate i q:=by
   apply List.ext_getElem
   ·rw[hl,List.length_replicate]
   ·intro j h1 h2
    rw[hq j h1 (by omega),List.getElem_replicate]
  subst e
  rw[am]
  simp only[eB,be]
 |k+1,i,l,hi,hl,hq=>by
  have hlt:i<l.length:=by omega
  have hlt2:i<n:=by omega
  have ih:=TZ q m0 st0 z a b s n hn k (i+1) (l.set i q) (by omega) (by rw[List.length_set];exact hl) (fun j hj h1=>by
   rw[List.getElem_set]
   split
   ·rfl
   ·exact hq j (by simpa using hj) (by omega))
  have hnx:IntKind.i64.wrap ((i:Int)+1)=((i+1:Nat):Int):=by rw[wrap_i64]<;>omega
  have hget:l[i]? =some l[i]:=List.getElem?_eq_getElem hlt
  rw[am]
  simp only[eB,a7 hlt2,ar hlt,aa,Int.toNat_natCast,hget,hnx]
  exact ih
theorem Fq(m:ac.T)(st:ab.T)(hz:bU m):dr (m,st,())=some ((match a8 m with|false=>1|true=>match aC m st with|false=>2|true=>0:Int),()):=by
 have hM:kO (m,())=_:=Rt m hz
 have e1:dr (m,st,())=match kO (m,())with
  |none=>none
  |some v1=>match(!v1.1)with
   |true=>some ((1:Int),())
   |false=>match mf (m,st,())with
    |none=>none
    |some v2=>match(!v2.1)with
     |true=>some ((2:Int),())
     |false=>some ((0:Int),()):=rfl
 rw[e1,hM]
 rcases Bool.eq_false_or_eq_true (a8 m)with h1|h1<;>simp only[h1,Bool.not_true,Bool.not_false]
 have hB:=U0 m st h1
 simp only[hB]
 rcases Bool.eq_false_or_eq_true (aC m st)with h2|h2<;>simp only[h2,Bool.not_true,Bool.not_false]
theorem Y7(m:ac.T)(st:ab.T)(hz:bU m):wS (m,st,())=some ((match a8 m with|false=>1|true=>match aC m st with|false=>2|true=>0:Int),()):=by
 have hM:l5 (m,())=_:=Wx m hz
 have e1:wS (m,st,())=match l5 (m,())with
  |none=>none
  |some v1=>match(!v1.1)with
   |true=>some ((1:Int),())
   |false=>match mp (m,st,())with
    |none=>none
    |some v2=>match(!v2.1)with
     |true=>some ((2:Int),())
     |false=>some ((0:Int),()):=rfl
 rw[e1,hM]
 rcases Bool.eq_false_or_eq_true (a8 m)with h1|h1<;>simp only[h1,Bool.not_true,Bool.not_false]
 have hB:=aaA m st h1
 simp only[hB]
 rcases Bool.eq_false_or_eq_true (aC m st)with h2|h2<;>simp only[h2,Bool.not_true,Bool.not_false]
theorem XS(d:bf.T)(st:ab.T)(k:Nat)(hk:d.2.2.1=(k:Int))(hk2:k≤1000):kt (d,st,())=some ((d.2.1,(0:Int),(if(d.2.1 != (0:Int))=true then st else dV),List.replicate k (0:Int),()),()):=by
 have hst:∀z:Int,ez (z,())=some ((z != (0:Int)),()):=fun z=>rfl
 unfold kt
 simp only[hst,hk,Int.toNat_natCast]
 have hk0:(0:Int)≤(k:Int)∧(k:Int)≤(k:Int):=⟨by omega,by omega⟩
 simp only[if_pos hk0]
 rw[aD (by omega),aD (by omega)]
 simp only[eC,bM]
 cases (d.2.1 != (0:Int))<;>rfl
theorem Ld(m:ac.T)(st:ab.T)(fill req:Int)(hz:bU m)(h:a8 m=true)(hb:aC m st=true)(hf:aS fill 0 255=true)(hq:aS req 0 7=true):
  tX (m,st,fill,req,())=some (if dj m st (bV m st fill req)=true then(bV m st fill req,(0:Int),())else(eE,(5:Int),())):=by
 obtain⟨_,hd,hqd⟩:=dF m st h hb
 obtain⟨k,hk,hk2⟩:=EN hqd
 have hl:=Fq m st hz
 rw[h,hb]at hl
 have he:=XS (bL m st) st k hk hk2
 have hl9:=TZ fill m st eE (bL m st).2.1 req (if((bL m st).2.1 != (0:Int))=true then st else dV) k hk2 k 0 (List.replicate k (0:Int)) (by omega) (by simp) (fun j hj h1=>by omega)
 have hfl:=AI h hb fill req
 have hs:=WE m st (bV m st fill req) h hb (by omega)
 have hfr:bV m st fill req=((bL m st).2.1,req,(if((bL m st).2.1 != (0:Int))=true then st else dV),List.replicate k fill,()):=by
  unfold bV
  rw[hk,Int.toNat_natCast]
 rw[hfr]at hs ⊢
 have k0:((0:Int) != 0)=false:=rfl
 have hlen:((List.replicate k (0:Int)).length:Int)=(k:Int):=by rw[List.length_replicate]
 have hl9:ag eB (fill,m,st,((0:Int),(0:Int),((0:Int),(0:Int),(0:Int),(0:Int),(0:Int),()),([]:List Int),()),((bL m st).2.1,req,(if((bL m st).2.1 != (0:Int))=true then st else dV),List.replicate k (0:Int),()),(k:Int),(0:Int),())=_:=hl9
 have hl:dr (m,st,())=some ((0:Int),()):=hl
 unfold tX
 simp only[hl,k0,kS,hf,hq,Bool.not_true,hd,he,hlen,hl9,hs]
 cases dj m st ((bL m st).2.1,req,(if((bL m st).2.1 != (0:Int))=true then st else dV),List.replicate k fill,())<;>simp only[Bool.not_true,Bool.not_false,bM,eC,if_true,Bool.false_eq_true,if_false]<;>rfl
noncomputable def gl(m:ac.T)(st:ab.T)(x:au.T):List Int:=
 if dj m st (bV m st x.1 x.2.1)=true then fy (fM m st (bV m st x.1 x.2.1))
 else if dj m st (bV m st x.1 0)=true then fy (fM m st (bV m st x.1 0))
 else List.replicate (8*(bL m st).2.2.2.1.toNat) 1
theorem IL {m:ac.T}{st:ab.T}{f:aU.T}(h:a8 m=true)(hb:aC m st=true)(hs:dj m st f=true):gX m st f=0:=by
 unfold gX
 rw[h,hb,hs]
theorem Y8(m:ac.T)(st:ab.T)(x:au.T)(hz:bU m)(h:a8 m=true)(hb:aC m st=true)(hx:aS x.1 0 255=true)(hq:aS x.2.1 0 7=true):Ko (m,st,x,())=some (gl m st x,()):=by
 obtain⟨_,hd,hqd⟩:=dF m st h hb
 obtain⟨D,hD,hD2⟩:=vQ hqd
 have hl:=Fq m st hz
 rw[h,hb]at hl
 have hl:dr (m,st,())=some ((0:Int),()):=hl
 have f1:=Ld m st x.1 x.2.1 hz h hb hx hq
 have f2:=Ld m st x.1 0 hz h hb hx (by decide)
 have k0:((0:Int) != 0)=false:=rfl
 have k1:((0:Int)==0)=true:=rfl
 have k5:((5:Int)==0)=false:=rfl
 have hw:IntKind.i64.wrap ((8:Int)*(D:Int))=((8*D:Nat):Int):=by rw[wrap_i64]<;>omega
 have hh:=AE (8*D) (by omega)
 have sl:pY (m,st,())=some (List.replicate (8*D) (1:Int),(0:Int),()):=by
  unfold pY
  simp only[hl,k0,hd,hD,hw,hh]
 have two:([x.2.1,(0:Int)].length:Int)=2:=rfl
 have i0:aq [x.2.1,(0:Int)] (0:Int)=some x.2.1:=rfl
 have i1:aq [x.2.1,(0:Int)] (1:Int)=some (0:Int):=rfl
 have g0: [x.2.1,(0:Int)][(0:Int).toNat]? =some x.2.1:=rfl
 have g1: [x.2.1,(0:Int)][(1:Int).toNat]? =some (0:Int):=rfl
 have n1:IntKind.i64.wrap ((0:Int)+1)=1:=by decide
 have n2:IntKind.i64.wrap ((1:Int)+1)=2:=by decide
 have d0:decide ((0:Int)<2)=true:=by decide
 have d1:decide ((1:Int)<2)=true:=by decide
 have d2:decide ((2:Int)<2)=false:=by decide
 have sent1:∀q:Int,dj m st (bV m st x.1 q)=true→lj (m,st,bV m st x.1 q,())=some (fy (fM m st (bV m st x.1 q)),(0:Int),()):=fun q hs=>by
  have:=Y6 m st (bV m st x.1 q) hz (by have:=AI h hb x.1 q;omega)
  rw[if_pos (IL h hb hs)]at this
  exact this
 have key:ag gI (m,st,x,[x.2.1,(0:Int)],(2:Int),(0:Int),())=some (if dj m st (bV m st x.1 x.2.1)=true then .inr (fy (fM m st (bV m st x.1 x.2.1)),())else if dj m st (bV m st x.1 0)=true then .inr (fy (fM m st (bV m st x.1 0)),())else .inl (m,st,())):=by
  rw[am]
  rcases Bool.eq_false_or_eq_true (dj m st (bV m st x.1 x.2.1))with s1|s1
  ·rw[if_pos s1]at f1 ⊢
   simp only[gI,d0,i0,aa,g0,f1,k1,sent1 _ s1]
  ·rw[if_neg (nb s1)]at f1 ⊢
   simp only[gI,d0,i0,aa,g0,f1,k5,n1]
   rw[am]
   rcases Bool.eq_false_or_eq_true (dj m st (bV m st x.1 0))with s2|s2
   ·rw[if_pos s2]at f2 ⊢
    simp only[gI,d1,i1,aa,g1,f2,k1,sent1 _ s2]
   ·rw[if_neg (nb s2)]at f2 ⊢
    simp only[gI,d1,i1,aa,g1,f2,k5,n2]
    rw[am]
    simp only[gI,d2]
 have key':ag gI (m,st,x,[x.2.1,(0:Int)],([x.2.1,(0:Int)].length:Int),(0:Int),())=_:=key
 unfold Ko gl
 simp only[key']
 rcases Bool.eq_false_or_eq_true (dj m st (bV m st x.1 x.2.1))with s1|s1
 ·rw[if_pos s1,if_pos s1]
 ·rw[if_neg (nb s1),if_neg (nb s1)]
  rcases Bool.eq_false_or_eq_true (dj m st (bV m st x.1 0))with s2|s2
  ·rw[if_pos s2,if_pos s2]
  ·rw[if_neg (nb s2),if_neg (nb s2)]
   simp only[sl,hD,Int.toNat_natCast]
theorem Y9(m:ac.T)(st:ab.T)(x:au.T)(hz:bU m)(h:a8 m=true)(hb:aC m st=true):p9 (m,st,x,())=some (gl m st x,()):=by
 obtain⟨hd,_,hqd⟩:=dF m st h hb
 obtain⟨D,hD,hD2⟩:=vQ hqd
 have f1:=RC m st x.1 x.2.1 h hb
 have f2:=RC m st x.1 0 h hb
 have hw:IntKind.i64.wrap ((8:Int)*(D:Int))=((8*D:Nat):Int):=by rw[wrap_i64]<;>omega
 have hh:=uu (8*D) 1 (by omega)
 have i0:aq [x.2.1,(0:Int)] (0:Int)=some x.2.1:=rfl
 have i1:aq [x.2.1,(0:Int)] (1:Int)=some (0:Int):=rfl
 have g0: [x.2.1,(0:Int)][(0:Int).toNat]? =some x.2.1:=rfl
 have g1: [x.2.1,(0:Int)][(1:Int).toNat]? =some (0:Int):=rfl
 have n1:IntKind.i64.wrap ((0:Int)+1)=1:=by decide
 have n2:IntKind.i64.wrap ((1:Int)+1)=2:=by decide
 have d0:decide ((0:Int)<2)=true:=by decide
 have d1:decide ((1:Int)<2)=true:=by decide
 have d2:decide ((2:Int)<2)=false:=by decide
 have sb:∀q:Int,lp (m,st,bV m st x.1 q,())=some (dj m st (bV m st x.1 q),()):=fun q=>Z3 m st _ h hb (by have:=AI h hb x.1 q;omega)
 have sent1:∀q:Int,dj m st (bV m st x.1 q)=true→p8 (m,st,bV m st x.1 q,())=some (fM m st (bV m st x.1 q),())∧mq (fM m st (bV m st x.1 q),())=some (fy (fM m st (bV m st x.1 q)),()):=fun q hs=>by
  have hc:=IL h hb hs
  exact⟨S9 m st _ hz hc,WD _ (by have:=(IK hc).1;omega)⟩
 have key:ag dv (m,st,x,[x.2.1,(0:Int)],(0:Int),())=some (if dj m st (bV m st x.1 x.2.1)=true then .inr (fy (fM m st (bV m st x.1 x.2.1)),())else if dj m st (bV m st x.1 0)=true then .inr (fy (fM m st (bV m st x.1 0)),())else .inl (m,st,())):=by
  rw[am]
  rcases Bool.eq_false_or_eq_true (dj m st (bV m st x.1 x.2.1))with s1|s1
  ·rw[if_pos s1]
   simp only[dv,d0,i0,aa,g0,f1,sb,s1,(sent1 _ s1).1,(sent1 _ s1).2,eC]
  ·rw[if_neg (nb s1)]
   simp only[dv,d0,i0,aa,g0,f1,sb,s1,n1,eC]
   rw[am]
   rcases Bool.eq_false_or_eq_true (dj m st (bV m st x.1 0))with s2|s2
   ·rw[if_pos s2]
    simp only[dv,d1,i1,aa,g1,f2,sb,s2,(sent1 _ s2).1,(sent1 _ s2).2,eC]
   ·rw[if_neg (nb s2)]
    simp only[dv,d1,i1,aa,g1,f2,sb,s2,n2,eC]
    rw[am]
    simp only[dv,d2]
 unfold p9 gl
 simp only[key]
 rcases Bool.eq_false_or_eq_true (dj m st (bV m st x.1 x.2.1))with s1|s1
 ·rw[if_pos s1,if_pos s1]
 ·rw[if_neg (nb s1),if_neg (nb s1)]
  rcases Bool.eq_false_or_eq_true (dj m st (bV m st x.1 0))with s2|s2
  ·rw[if_pos s2,if_pos s2]
  ·rw[if_neg (nb s2),if_neg (nb s2)]
   simp only[hd,hD,hw,hh,Int.toNat_natCast]
end Go.Proofs.YtkgcbbkodalfmaaGreatDoor
namespace Go.Proofs.YtkgcbbkodalfmaaGreatDoor
open Go.RowKit
set_option linter.unusedVariables false
set_option linter.unusedSimpArgs false
theorem XT {l:List Int}(h:bT l=true):∀v ∈ l,v=0∨v=1:=by
 intro v hv
 obtain⟨i,hi,rfl⟩:=List.getElem_of_mem hv
 exact vC h hi
theorem MZ {l:List Int}(h1:l.length≤8192)(h2:∀v ∈ l,v=0∨v=1):bT l=true:=TD h1 fun i hi=>h2 _ (List.getElem_mem hi)
theorem WG {g:Int→Int}(hg:∀v,v=0∨v=1→g v=0∨g v=1):∀(k i:Nat) (l:List Int),(∀v ∈ l,v=0∨v=1)→i+k≤l.length→∀v ∈ chg g k i l,v=0∨v=1
 |0,i,l,h,_=>h
 |k+1,i,l,h,hi=>by
  rw[chg]
  refine WG hg k (i+1) _ (fun v hv=> ?_) (by rw[List.length_set];omega)
  rcases List.mem_or_eq_of_mem_set hv with hv|rfl
  ·exact h v hv
  ·refine hg _ (h _ ?_)
   have hlt:i<l.length:=by omega
   rw[List.getD_eq_getElem?_getD,List.getElem?_eq_getElem hlt]
   exact List.getElem_mem hlt
theorem Fr {g:Int→Int}(hg:∀v,v=0∨v=1→g v=0∨g v=1){l:List Int}(h:∀v ∈ l,v=0∨v=1)(a b:Nat):∀v ∈ vP g l a b,v=0∨v=1:=by
 unfold vP
 by_cases hab:min a l.length≤min b l.length
 ·exact WG hg _ _ l h (by omega)
 ·have:min b l.length-min a l.length=0:=by omega
  rw[this]
  exact h
theorem T0:∀v,v=0∨v=1→xg v=0∨xg v=1:=by
 rintro v (rfl|rfl)
 ·exact .inr (by decide)
 ·exact .inl (by decide)
theorem WH {k a c v:Int}(h:fN (k,a,c,v,())=true):(k=4∨k=6)→v=0∨v=1:=by
 intro hk
 unfold fN at h
 simp only[Bool.and_eq_true]at h
 have h4:=h.2.2.2
 have hv:EK k=true:=by
  unfold EK
  rcases hk with rfl|rfl<;>rfl
 rw[hv]at h4
 have:=aR.1 h4
 omega
theorem U7 {l:List Int}{f:ax.T}(h:bT l=true)(hf:fN f=true):bT (gp l f)=true:=by
 have h01:=XT h
 refine MZ (EL l (df h) f) ?_
 obtain⟨(k:Int),(a:Int),(c:Int),(v:Int),⟨⟩⟩:=f
 obtain⟨hk,_,_⟩:=xW hf
 have hv:=WH hf
 unfold gp
 split
 ·exact Fr T0 h01 _ _
 ·split
  ·exact Fr T0 h01 _ _
  ·split
   ·intro u hu
    rcases List.mem_append.1 hu with hu|hu
    ·exact h01 u (List.mem_of_mem_take hu)
    ·exact h01 u (List.mem_of_mem_drop hu)
   ·split
    ·rename_i h4
     have h4:k=4:=h4
     intro u hu
     have hu:=List.mem_of_mem_take hu
     split at hu
     ·rcases List.mem_append.1 hu with hu|hu
      ·rcases List.mem_append.1 hu with hu|hu
       ·exact h01 u (List.mem_of_mem_take hu)
       ·rw[List.mem_replicate]at hu
        rw[hu.2]
        exact hv (.inl h4)
      ·exact h01 u (List.mem_of_mem_drop hu)
     ·exact h01 u hu
    ·split
     ·exact Fr (fun _ _=>.inr rfl) h01 _ _
     ·rename_i n1 n2 n3 n4 n5
      have h6:k=6:=by
       have n1:¬k=1:=n1
       have n2:¬k=2:=n2
       have n3:¬k=3:=n3
       have n4:¬k=4:=n4
       have n5:¬k=5:=n5
       omega
      exact Fr (fun _ _=>hv (.inr h6)) h01 _ _
theorem ly {s:List ax.T}(hs:fc s=true){l:List Int}(h:bT l=true):bT (fO l s)=true:=by
 have hall:∀f ∈ s,fN f=true:=by
  unfold fc at hs
  simp only[Bool.and_eq_true,List.all_eq_true]at hs
  exact fun f hf=>by first|exact hs.1 f hf|exact hs.2 f hf
 exact pf (P:=fun z:List Int=>bT z=true) s l (fun z f hf hz=>U7 hz (hall f hf)) h
theorem EO {m:ac.T}{st:ab.T}(x:au.T)(h:a8 m=true)(hb:aC m st=true):bT (gl m st x)=true:=by
 obtain⟨_,_,hqd⟩:=dF m st h hb
 obtain⟨D,hD,hD2⟩:=vQ hqd
 have cells:∀f,dj m st f=true→bT (fy (fM m st f))=true:=fun f hs=>by
  obtain⟨c1,c2⟩:=IK (IL h hb hs)
  refine MZ (by rw[S7];omega) fun v hv=> ?_
  unfold fy at hv
  obtain⟨c,hc,hv⟩:=List.mem_flatMap.1 hv
  rw[List.mem_replicate]at hv
  rw[hv.2]
  exact c2 c hc
 unfold gl
 split
 ·exact cells _ (by assumption)
 ·split
  ·exact cells _ (by assumption)
  ·refine MZ (by rw[hD,Int.toNat_natCast,List.length_replicate];omega) fun v hv=> ?_
   rw[List.mem_replicate]at hv
   exact .inr hv.2
noncomputable def eF(x:au.T):Bool:=aS x.1 0 255&&aS x.2.1 0 7&&fc x.2.2.1&&fc x.2.2.2.1
def gY(x:au.T):Prop:=x.2.2.1.length≤1099511627776∧x.2.2.2.1.length≤1099511627776
theorem Za(x:au.T)(h:gY x):Ap (x,())=some (eF x,()):=by
 unfold Ap eF
 simp only[i9,NM x.2.2.1 h.1,NM x.2.2.2.1 h.2]
 cases aS x.1 0 255<;>cases aS x.2.1 0 7<;>cases fc x.2.2.1<;>cases fc x.2.2.2.1<;>rfl
theorem Zb(x:au.T)(h:gY x):vg (x,())=some (eF x,()):=by
 unfold vg eF
 simp only[kS,NN x.2.2.1 h.1,NN x.2.2.2.1 h.2]
 cases aS x.1 0 255<;>cases aS x.2.1 0 7<;>cases fc x.2.2.1<;>cases fc x.2.2.2.1<;>rfl
noncomputable def ch(m:ac.T)(st:ab.T)(l:List au.T):Int:=match a8 m with
 |false=>1
 |true=>match aC m st with
  |false=>2
  |true=>if(l.length:Int)>40 then 3 else if l.all eF then 0 else 5
theorem RD(m:ac.T)(st:ab.T)(l:List au.T)(hz:bU m)(hl:l.length≤1048576)(hs:∀x ∈ l,gY x):lv (m,st,l,())=some (ch m st l,()):=by
 have hk:=Fq m st hz
 have hc:=OZ l (Nat.le_trans hl (by omega)) n7 (fun x=> !eF x) (fun i h=>by
  have hf:=Zb l[i] (hs _ (List.getElem_mem h))
  have e0:n7 (l[i],())=match vg (l[i],())with
   |none=>none
   |some v1=>some ((!v1.1),()):=rfl
  rw[e0,hf])
 have hany:l.any (fun x=> !eF x)= !l.all eF:=by rw[List.all_eq_not_any_not,Bool.not_not]
 unfold lv ch
 rcases Bool.eq_false_or_eq_true (a8 m)with h1|h1<;>simp only[h1]at hk ⊢
 ·rcases Bool.eq_false_or_eq_true (aC m st)with h2|h2<;>simp only[h2]at hk ⊢
  ·have k0:((0:Int) != 0)=false:=rfl
   simp only[hk,k0]
   by_cases h3:(l.length:Int)>40
   ·simp only[decide_eq_true h3,if_pos h3]
   ·simp only[decide_eq_false h3,if_neg h3,hc,hany]
    cases l.all eF<;>rfl
  ·have k0:((2:Int) != 0)=true:=rfl
   simp only[hk,k0]
 ·have k0:((1:Int) != 0)=true:=rfl
  simp only[hk,k0]
theorem T1(l:List au.T)(c:Int)(hc:c≠0)(i:Nat)(hl:l.length≤1048576)(hi:i≤l.length):ag ct (l,c,(i:Int),())=some (.inl (c,())):=by
 have hq:(c==0)=false:=by simpa using hc
 rw[am]
 by_cases h:i<l.length
 ·simp only[ct,a7 h,hq]
 ·have:i=l.length:=by omega
  subst this
  simp only[ct,be]
theorem T2(l:List au.T)(hl:l.length≤1048576)(hs:∀x ∈ l,gY x):∀(k i:Nat),i+k=l.length→ag ct (l,(0:Int),(i:Int),())=some (.inl ((if(l.drop i).all eF then(0:Int)else 5),()))
 |0,i,hi=>by
  have hi:i=l.length:=by omega
  subst hi
  rw[am]
  simp only[ct,be,List.drop_length,List.all_nil,if_true]
 |k+1,i,hi=>by
  have h:i<l.length:=by omega
  have hb:=Za l[i] (hs _ (List.getElem_mem h))
  have k0:((0:Int)==0)=true:=rfl
  have ih:=T2 l hl hs k (i+1) (by omega)
  have i5:=T1 l 5 (by decide) (i+1) hl (by omega)
  rw[am,List.drop_eq_getElem_cons h,List.all_cons]
  simp only[ct,a7 h,aG h (show l.length≤1099511627776 by omega),k0,ar h,aa,hb]
  cases eF l[i]
  ·simp only[Bool.not_false,Bool.false_and,Bool.false_eq_true,if_false]
   exact i5
  ·simp only[Bool.not_true,Bool.true_and]
   exact ih
theorem RE(m:ac.T)(st:ab.T)(l:List au.T)(hz:bU m)(hl:l.length≤1048576)(hs:∀x ∈ l,gY x):o7 (m,st,l,())=some (ch m st l,()):=by
 have hk:=Y7 m st hz
 have e0:=T2 l hl hs l.length 0 (by omega)
 have ek:=fun c hc=>T1 l c hc 0 hl (by omega)
 have e0:ag ct (l,(0:Int),(0:Int),())=_:=e0
 rw[List.drop_zero]at e0
 have e1:ag ct (l,(1:Int),(0:Int),())=_:=ek 1 (by decide)
 have e2:ag ct (l,(2:Int),(0:Int),())=_:=ek 2 (by decide)
 have e3:ag ct (l,(3:Int),(0:Int),())=_:=ek 3 (by decide)
 have q0:((0:Int)==0)=true:=rfl
 have q1:((1:Int)==0)=false:=rfl
 have q2:((2:Int)==0)=false:=rfl
 unfold o7 ch
 rcases Bool.eq_false_or_eq_true (a8 m)with h1|h1<;>simp only[h1]at hk ⊢
 ·rcases Bool.eq_false_or_eq_true (aC m st)with h2|h2<;>simp only[h2]at hk ⊢
  ·simp only[hk,q0]
   by_cases h3:(l.length:Int)>40
   ·simp only[decide_eq_true h3,if_pos h3,e3]
   ·simp only[decide_eq_false h3,if_neg h3,e0]
  ·simp only[hk,q2,e2]
 ·simp only[hk,q1,e1]
noncomputable def fq(m:ac.T)(st:ab.T)(x:au.T):aB.T:=jE (gK m st (fO (gl m st x) x.2.2.1)) (gK m st (fO (gl m st x) x.2.2.2.1))
noncomputable def Pd(m:ac.T)(st:ab.T)(x:au.T):Int:=((iO st.2.2.2.2.1.toNat (bL m st).1.toNat ((fq m st x).1==(3:Int)):Nat):Int)
noncomputable def jk(m:ac.T)(st:ab.T)(x:au.T):ab.T:=Fp m st (Pd m st x)
theorem vR {m:ac.T}{st:ab.T}{l:List Int}(h:a8 m=true)(hb:aC m st=true)(hl:bT l=true):hZ m st l=(gK m st l,(0:Int),()):=by
 unfold hZ
 rw[h,hb,hl]
theorem XU {m:ac.T}{st:ab.T}{l l2:List Int}(h:a8 m=true)(hb:aC m st=true)(hl:bT l=true)(hl2:bT l2=true):Pc m st l l2=(jE (gK m st l) (gK m st l2),(0:Int),()):=by
 unfold Pc
 rw[vR h hb hl,vR h hb hl2]
 rfl
theorem uh {m:ac.T}{st:ab.T}(hb:aC m st=true):∃d:Nat,st.2.2.2.2.1=(d:Int)∧d<4294967296:=by
 obtain⟨_,_,_,d,_,_,_,ed,_,_,_,hd⟩:=vM (mB hb)
 exact⟨d,ed,by omega⟩
theorem xh {d:bf.T}(h:kU d=true):∃n:Nat,d.1=(n:Int)∧n<32:=by
 unfold kU at h
 simp only[Bool.and_eq_true]at h
 have hr:=aR.1 h.1
 have e:((d.1.toNat:Nat):Int)=d.1:=Int.toNat_of_nonneg hr.1
 have h2:((d.1.toNat:Nat):Int)≤31:=by rw[e];exact hr.2
 exact⟨d.1.toNat,e.symm,by omega⟩
theorem AJ {x:au.T}(h:eF x=true):aS x.1 0 255=true∧aS x.2.1 0 7=true∧fc x.2.2.1=true∧fc x.2.2.2.1=true:=by
 unfold eF at h
 simp only[Bool.and_eq_true]at h
 exact⟨h.1.1.1,h.1.1.2,h.1.2,h.2⟩
theorem Zc(m:ac.T)(st:ab.T)(x:au.T)(hz:bU m)(h:a8 m=true)(hb:aC m st=true)(hx:eF x=true):tY (m,st,x,())=some (fq m st x,jk m st x,()):=by
 obtain⟨x1,x2,x3,x4⟩:=AJ hx
 have hsb:=EO x h hb
 have hs:=Y8 m st x hz h hb x1 x2
 have a1:=RA (gl m st x) (df hsb) x.2.2.1 x3
 have a2:=RA (gl m st x) (df hsb) x.2.2.2.1 x4
 have b1:=ly x3 hsb
 have b2:=ly x4 hsb
 have hr:=ZZ m st _ _ hz (Nat.le_trans (df b1) (by omega)) (Nat.le_trans (df b2) (by omega))
 rw[XU h hb b1 b2]at hr
 obtain⟨_,hd,hqd⟩:=dF m st h hb
 obtain⟨n,hn,hn2⟩:=xh hqd
 obtain⟨d,hdd,hd2⟩:=uh hb
 have hm:=Z6 d n ((fq m st x).1==(3:Int)) hd2 hn2
 have hnx:=(NQ m st _ h hb (AH ((fq m st x).1==(3:Int)) hd2 hn2)).2
 have hv:jE (gK m st (fO (gl m st x) x.2.2.1)) (gK m st (fO (gl m st x) x.2.2.2.1))=fq m st x:=rfl
 rw[hv]at hr
 have hnx:bo (m,(st.1,st.2.1,st.2.2.1,st.2.2.2.1,((iO d n ((fq m st x).1==(3:Int)):Nat):Int),()),())=_:=hnx
 unfold tY jk Pd
 simp only[hs,a1,a2,hr,hd,hn,hdd,hm,hnx,eC,bM,Int.toNat_natCast]
theorem Zd(m:ac.T)(st:ab.T)(x:au.T)(hz:bU m)(h:a8 m=true)(hb:aC m st=true)(hx:eF x=true):r4 (m,st,x,())=some (fq m st x,jk m st x,()):=by
 obtain⟨x1,x2,x3,x4⟩:=AJ hx
 have hsb:=EO x h hb
 have hs:=Y9 m st x hz h hb
 have a1:=RB (gl m st x) (df hsb) x.2.2.1 x3
 have a2:=RB (gl m st x) (df hsb) x.2.2.2.1 x4
 have b1:=ly x3 hsb
 have b2:=ly x4 hsb
 obtain⟨c1,r1⟩:=Wy m st _ h hb b1
 obtain⟨c2,r2⟩:=Wy m st _ h hb b2
 have hdat:(U1 (gK m st (fO (gl m st x) x.2.2.1))).length≤1099511627776:=by
  have:=NL m st (fO (gl m st x) x.2.2.1)
  rw[vR h hb b1]at this
  exact Nat.le_trans this (by omega)
 have hr:=Y1 (gK m st (fO (gl m st x) x.2.2.1)) (gK m st (fO (gl m st x) x.2.2.2.1)) hdat
 obtain⟨hd,_,hqd⟩:=dF m st h hb
 obtain⟨n,hn,hn2⟩:=xh hqd
 obtain⟨d,hdd,hd2⟩:=uh hb
 have hm:=Z7 d n ((fq m st x).1==(3:Int)) hd2 hn2
 have hnx:=(NQ m st _ h hb (AH ((fq m st x).1==(3:Int)) hd2 hn2)).1
 have hv:jE (gK m st (fO (gl m st x) x.2.2.1)) (gK m st (fO (gl m st x) x.2.2.2.1))=fq m st x:=rfl
 rw[hv]at hr
 have hnx:kD (m,(st.1,st.2.1,st.2.2.1,st.2.2.2.1,((iO d n ((fq m st x).1==(3:Int)):Nat):Int),()),())=_:=hnx
 unfold r4 jk Pd
 simp only[hs,a1,a2,r1,r2,hr,hd,hn,hdd,hm,hnx,eC,bM,Int.toNat_natCast]
theorem m8 {m:ac.T}{st:ab.T}{l:List au.T}(h:ch m st l=0):a8 m=true∧aC m st=true∧l.length≤40∧∀x ∈ l,eF x=true:=by
 unfold ch at h
 cases h1:a8 m<;>rw[h1]at h
 ·cases h
 ·cases h2:aC m st<;>rw[h2]at h
  ·cases h
  ·simp only at h
   split at h
   ·cases h
   ·split at h
    ·rename_i h3 h4
     exact⟨rfl,rfl,by omega,fun x hx=>List.all_eq_true.1 h4 x hx⟩
    ·cases h
end Go.Proofs.YtkgcbbkodalfmaaGreatDoor
namespace Go.Proofs.YtkgcbbkodalfmaaGreatDoor
open Go.RowKit
set_option linter.unusedVariables false
set_option linter.unusedSimpArgs false
theorem Ze {m:ac.T}(h:a8 m=true):lI m=true:=by
 unfold a8 vL at h
 obtain⟨h0,h2,h3,h4,h5⟩:=fo h
 have h1:aS m.1 1 16777215=true:=aR.2 h0
 cases h6:lI m
 ·simp[h1,h2,h3,h4,h5,h6]at h
 ·rfl
def ui(m:ac.T)(st:ab.T):al.T:=(m.2.2.1[st.2.1.toNat]?).getD ((0:Int),(0:Int),([]:List Int),())
def EP(m:ac.T)(st:ab.T)(to:Int):Bool:=(ui m st).2.2.1.any fun u=>u==to
theorem AK {m:ac.T}{st:ab.T}(h:a8 m=true)(hb:aC m st=true):∃(a:Nat) (ha:a<m.2.2.1.length),st.2.1=(a:Int)∧ui m st=m.2.2.1[a]∧aq m.2.2.1 st.2.1=some (ui m st):=by
 obtain⟨a,ha,ea,_⟩:=Fo h hb
 have e:ui m st=m.2.2.1[a]:=by
  unfold ui
  rw[ea,Int.toNat_natCast,List.getElem?_eq_getElem ha]
  rfl
 exact⟨a,ha,ea,e,by rw[e,ea];exact ar ha⟩
theorem aaD(m:ac.T)(st:ab.T)(to:Int)(hz:bU m)(h:a8 m=true)(hb:aC m st=true):jO (m.2.2.1,st.2.1,to,())=some (EP m st to,()):=by
 obtain⟨a,ha,ea,em,ei⟩:=AK h hb
 obtain⟨_,_,hm,_,_⟩:=fo h
 have hmod:=TO m.2.2.1 hz.2.2.1 hz.2.2.2.1
 rw[hm]at hmod
 have hl16:=(dw hm).1
 have hw:IntKind.i64.wrap ((m.2.2.1.length:Int)-1)=(m.2.2.1.length:Int)-1:=by rw[wrap_i64]<;>omega
 have hin:aS st.2.1 0 ((m.2.2.1.length:Int)-1)=true:=by rw[ea];exact aR.2 ⟨by omega,by omega⟩
 have hall:=TC [st.2.1] 0 ((m.2.2.1.length:Int)-1) (by simp)
 rw[List.all_cons,List.all_nil,hin]at hall
 have hnx:(ui m st).2.2.1.length≤1099511627776:=by rw[em];exact hz.2.2.2.1 _ (List.getElem_mem ha)
 have hc:=G1 (ui m st).2.2.1 to hnx
 have k0:((0:Int)==0)=true:=rfl
 unfold jO xO EP
 simp only[hmod,Bool.not_true,hw,hall,Bool.and_self,k0,ei,aa,hc]
theorem aaE(m:ac.T)(st:ab.T)(to:Int)(hz:bU m)(h:a8 m=true)(hb:aC m st=true):ou ((ui m st).2.2.1,to,())=some (EP m st to,()):=by
 obtain⟨a,ha,ea,em,ei⟩:=AK h hb
 have hnx:(ui m st).2.2.1.length≤1099511627776:=by rw[em];exact hz.2.2.2.1 _ (List.getElem_mem ha)
 exact Wu _ _ hnx
theorem XV {l:List Int}{n:Nat}(h:nQ l n=true):∀u ∈ l,0≤u∧u<n:=by
 intro u hu
 obtain⟨i,hi,rfl⟩:=List.getElem_of_mem hu
 unfold nQ at h
 rw[List.all_eq_true]at h
 have:=h i (List.mem_range.2 hi)
 unfold r7 at this
 rw[List.getElem?_eq_getElem hi]at this
 simp only[Bool.and_eq_true]at this
 have:=aR.1 this.1
 omega
def NR(m:ac.T)(p:Int):Prop:=p= -1∨(0≤p∧p<m.2.2.1.length)
theorem Z8 {m:ac.T}{st:ab.T}{to:Int}(h:a8 m=true)(hb:aC m st=true)(hm:EP m st to=true):0≤to∧to<m.2.2.1.length:=by
 obtain⟨a,ha,ea,em,ei⟩:=AK h hb
 obtain⟨_,_,hmo,_,_⟩:=fo h
 unfold eH at hmo
 simp only[Bool.and_eq_true,List.all_eq_true]at hmo
 have hat:=hmo.2 a (List.mem_range.2 ha)
 unfold qj at hat
 rw[List.getElem?_eq_getElem ha]at hat
 simp only[Bool.and_eq_true]at hat
 unfold EP at hm
 rw[em]at hm
 obtain⟨u,hu,e⟩:=List.any_eq_true.1 hm
 have e:u=to:=by simpa using e
 subst e
 have hr:nQ m.2.2.1[a].2.2.1 m.2.2.1.length=true:=hat.2.2.1
 exact XV hr u hu
noncomputable def rg(m:ac.T)(st:ab.T)(x:au.T)(p:Int):Int:=if(decide ((fq m st x).2.1.2.1-1≥0)&&EP m st ((fq m st x).2.1.2.1-1))=true then(fq m st x).2.1.2.1-1 else p
noncomputable def ef(m:ac.T)(st:ab.T)(x:au.T)(p:Int):ab.T×Int:=
 if((jk m st x).2.2.1==(0:Int))=true∧((jk m st x).2.2.2.1==(0:Int))=true∧rg m st x p≥0 then(((jk m st x).1,rg m st x p,(jk m st x).2.2.1,(jk m st x).2.2.2.1,(jk m st x).2.2.2.2.1,()),-1)else(jk m st x,rg m st x p)
noncomputable def aX(m:ac.T):List au.T→ab.T→Int→List aB.T×List ab.T×ab.T
 | [],st,_=>([],[],st)
 |x::r,st,p=>(fq m st x::(aX m r (ef m st x p).1 (ef m st x p).2).1,st::(aX m r (ef m st x p).1 (ef m st x p).2).2.1,(aX m r (ef m st x p).1 (ef m st x p).2).2.2)
theorem U8 {d n A:Nat}(b:Bool)(hd:d&&& A=d)(hA:A.testBit n=true):iO d n b&&& A=iO d n b:=by
 have hb:∀i,d.testBit i=true→A.testBit i=true:=fun i hi=>by
  have:=congrArg (fun z:Nat=>z.testBit i) hd
  simp only[Nat.testBit_and,hi,Bool.true_and]at this
  exact this
 apply Nat.eq_of_testBit_eq
 intro i
 unfold iO
 cases b with
 |true=>
  simp only[if_true,Nat.testBit_and,Nat.testBit_or,Nat.testBit_two_pow]
  by_cases hi:n=i
  ·subst hi;simp[hA]
  ·cases hq:d.testBit i
   ·simp[hi]
   ·simp[hb i hq]
 |false=>
  simp only[Bool.false_eq_true,if_false,Nat.testBit_and,Nat.testBit_xor,Nat.testBit_two_pow]
  cases hq:d.testBit i
  ·simp
  ·simp[hb i hq]
theorem Z9(a:Nat)(t r s mem dur slots cg:Int)(ht:0≤t∧t≤65535)(ha:a≤15)(hr:0≤r∧r<cg)(hs:0≤s∧s<slots)(hmem:0≤mem∧mem≤4294967295)(hd:0≤dur∧dur≤1000)(hrd:cg≤16)(hsl:slots≤256):
  br (qR (t,(a:Int),r,s,mem,()) dur slots cg)=true∧(qR (t,(a:Int),r,s,mem,()) dur slots cg).2.1=(a:Int)∧(qR (t,(a:Int),r,s,mem,()) dur slots cg).2.2.1<cg∧(qR (t,(a:Int),r,s,mem,()) dur slots cg).2.2.2.1<slots∧(qR (t,(a:Int),r,s,mem,()) dur slots cg).2.2.2.2.1=mem:=by
 have w1:IntKind.i64.wrap (s+1)=s+1:=by rw[wrap_i64]<;>omega
 have w2:IntKind.i64.wrap (t+dur)=t+dur:=by rw[wrap_i64]<;>omega
 have w3:IntKind.i64.wrap (r+1)=r+1:=by rw[wrap_i64]<;>omega
 have t1:0≤Int.tmod (t+dur) 65536∧Int.tmod (t+dur) 65536≤65535:=by
  rw[Int.tmod_eq_emod_of_nonneg (by omega)];omega
 have t2:0≤Int.tmod (r+1) cg∧Int.tmod (r+1) cg<cg:=by
  rw[Int.tmod_eq_emod_of_nonneg (by omega)]
  exact⟨Int.emod_nonneg _ (by omega),Int.emod_lt_of_pos _ (by omega)⟩
 unfold qR
 simp only[w1,w2,w3]
 cases hq:(s+1==slots)
 ·have hne:s+1≠slots:=by simpa using hq
  refine⟨?_,rfl,hr.2,by show s+1<slots;omega,rfl⟩
  unfold br
  simp only[Bool.and_eq_true]
  exact⟨⟨⟨⟨aR.2 t1,aR.2 ⟨by omega,by omega⟩⟩,aR.2 ⟨by omega,by omega⟩⟩,aR.2 ⟨by omega,by omega⟩⟩,aR.2 hmem⟩
 ·refine⟨?_,rfl,t2.2,by show 0<slots;omega,rfl⟩
  unfold br
  simp only[Bool.and_eq_true]
  exact⟨⟨⟨⟨aR.2 t1,aR.2 ⟨by omega,by omega⟩⟩,aR.2 ⟨by omega,by omega⟩⟩,aR.2 ⟨by omega,by omega⟩⟩,aR.2 hmem⟩
theorem WI {m:ac.T}{st:ab.T}(a d:Nat)(ha:a<m.2.2.1.length)(hst:br st=true)(h1:st.2.1=(a:Int))(h2:st.2.2.1<m.2.2.1[a].1)(h3:st.2.2.2.1<m.2.2.1[a].2.1)(h4:st.2.2.2.2.1=(d:Int))(h5:d&&& cG m.2.1=d):aC m st=true:=by
 unfold aC
 rw[hst,h1,Int.toNat_natCast,List.getElem?_eq_getElem ha,h4,Int.toNat_natCast]
 simp only[Bool.true_and,Bool.and_eq_true,decide_eq_true_eq]
 exact⟨h2,h3,h5⟩
theorem XW {m:ac.T}{st:ab.T}(x:au.T)(h:a8 m=true)(hb:aC m st=true):aC m (jk m st x)=true∧(jk m st x).2.1=st.2.1:=by
 obtain⟨a,ha,ea,b0,b1,c0,c1,hr,hs⟩:=Fo h hb
 obtain⟨_,_,q3⟩:=dF m st h hb
 obtain⟨D,hD,hD2⟩:=vQ q3
 obtain⟨n,hn,hn2⟩:=xh q3
 obtain⟨d,hdd,hd2⟩:=uh hb
 obtain⟨_,hno,hmo,_,_⟩:=fo h
 have hl16:=(dw hmo).1
 have hA:(cG m.2.1).testBit n=true:=by
  have hsd:=Ze h
  unfold lI at hsd
  rw[List.all_eq_true]at hsd
  obtain⟨j,hj,e⟩:=TV m st h hb
  have:=hsd _ (List.getElem_mem hj)
  rw[vK]at this
  have hdl:bL m st=m.2.2.2.1[j].2.2.2.1:=by
   unfold bL
   rw[e,Int.toNat_natCast,List.getElem?_eq_getElem hj]
  rw[hdl]at hn
  rw[hn,Int.toNat_natCast]at this
  exact this
 have hdA:d&&& cG m.2.1=d:=by
  have hb2:=hb
  unfold aC at hb2
  rw[Bool.and_eq_true]at hb2
  have hb3:=hb2.2
  rw[ea,Int.toNat_natCast,List.getElem?_eq_getElem ha,hdd,Int.toNat_natCast]at hb3
  simp only[Bool.and_eq_true,decide_eq_true_eq]at hb3
  exact hb3.2.2
 have hst:=mB hb
 unfold br at hst
 simp only[Bool.and_eq_true,aR]at hst
 have hlt:=AH ((fq m st x).1==(3:Int)) hd2 hn2
 have e1:jk m st x=qR (st.1,(a:Int),st.2.2.1,st.2.2.2.1,((iO d n ((fq m st x).1==(3:Int)):Nat):Int),()) (D:Int) m.2.2.1[a].2.1 m.2.2.1[a].1:=by
  unfold jk Fp Pd jj
  rw[ea,Int.toNat_natCast,List.getElem?_eq_getElem ha,hD,hn,hdd,Int.toNat_natCast,Int.toNat_natCast]
 obtain⟨g1,g2,g3,g4,g5⟩:=Z9 a st.1 st.2.2.1 st.2.2.2.1 ((iO d n ((fq m st x).1==(3:Int)):Nat):Int) (D:Int) m.2.2.1[a].2.1 m.2.2.1[a].1 hst.1.1.1.1 (by omega) ⟨b0,b1⟩ ⟨c0,c1⟩ ⟨by omega,by omega⟩ ⟨by omega,by omega⟩ hr.2 hs.2
 rw[←e1]at g1 g2 g3 g4 g5
 exact⟨WI a _ ha g1 g2 g3 g4 g5 (U8 _ hdA hA),by rw[g2,ea]⟩
theorem AL {m:ac.T}{st:ab.T}(x:au.T)(h:a8 m=true)(hb:aC m st=true)(hx:eF x=true):d8 (fq m st x)=true:=by
 obtain⟨_,_,x3,x4⟩:=AJ hx
 have hsb:=EO x h hb
 have r1:=uf m st (fO (gl m st x) x.2.2.1)
 have r2:=uf m st (fO (gl m st x) x.2.2.2.1)
 rw[vR h hb (ly x3 hsb)]at r1
 rw[vR h hb (ly x4 hsb)]at r2
 exact S6 r1 r2
theorem RF {v:aB.T}(h:d8 v=true):(0≤v.2.1.2.1∧v.2.1.2.1≤7)∧(v.1≠3→v.2.1.2.1=0):=by
 rcases jx h with⟨f,rfl,hf⟩|⟨s,rfl,h0,h4,h3⟩
 ·have:=aR.1 (G6 hf).2.1
  exact⟨this,fun hq=>absurd rfl hq⟩
 ·exact⟨⟨Int.le_refl 0,(show(0:Int)≤7 by decide)⟩,fun _=>rfl⟩
theorem Zf {m:ac.T}{st:ab.T}{x:au.T}{p:Int}(h:a8 m=true)(hb:aC m st=true)(hp:NR m p):NR m (rg m st x p):=by
 unfold rg
 split
 ·rename_i hq
  rw[Bool.and_eq_true]at hq
  exact .inr (Z8 h hb hq.2)
 ·exact hp
theorem AM {m:ac.T}{st:ab.T}{x:au.T}{p:Int}(h:a8 m=true)(hb:aC m st=true)(hp:NR m p):aC m (ef m st x p).1=true∧NR m (ef m st x p).2:=by
 obtain⟨hn,_⟩:=XW x h hb
 have hpd:=Zf (x:=x) h hb hp
 unfold ef
 split
 ·rename_i hq
  obtain⟨q1,q2,q3⟩:=hq
  refine⟨?_,.inl rfl⟩
  obtain⟨_,_,hmo,_,_⟩:=fo h
  have hl16:=(dw hmo).1
  have hpr:0≤rg m st x p∧rg m st x p<m.2.2.1.length:=by
   rcases hpd with hpd|hpd
   ·omega
   ·exact hpd
  obtain⟨a',ha',_,_,_,_,_,hr,hs⟩:=Fo h hn
  obtain⟨d,hdd,hd2⟩:=uh hn
  have hdA:d&&& cG m.2.1=d:=by
   have hb2:=hn
   unfold aC at hb2
   rw[Bool.and_eq_true]at hb2
   have hb3:=hb2.2
   split at hb3
   ·cases hb3
   ·simp only[Bool.and_eq_true,decide_eq_true_eq]at hb3
    have:=hb3.2.2
    rw[hdd,Int.toNat_natCast]at this
    exact this
  have hst:=mB hn
  unfold br at hst
  simp only[Bool.and_eq_true,aR]at hst
  generalize hy:jk m st x=y at *
  have z1:y.2.2.1=0:=by simpa using q1
  have z2:y.2.2.2.1=0:=by simpa using q2
  generalize rg m st x p=pp at *
  obtain⟨b,rfl⟩:=Int.eq_ofNat_of_zero_le hpr.1
  have hbl:b<m.2.2.1.length:=by omega
  have hg:=(dw hmo).2 _ (List.getElem_mem hbl)
  refine WI b d hbl ?_ rfl ?_ ?_ hdd hdA
  ·unfold br
   simp only[Bool.and_eq_true]
   exact⟨⟨⟨⟨aR.2 hst.1.1.1.1,aR.2 ⟨by omega,by omega⟩⟩,aR.2 hst.1.1.2⟩,aR.2 hst.1.2⟩,aR.2 hst.2⟩
  ·show y.2.2.1<_
   rw[z1];exact Int.lt_of_lt_of_le (by decide) hg.1.1
  ·show y.2.2.2.1<_
   rw[z2];exact Int.lt_of_lt_of_le (by decide) hg.2.1
 ·exact⟨hn,hpd⟩
end Go.Proofs.YtkgcbbkodalfmaaGreatDoor
namespace Go.Proofs.YtkgcbbkodalfmaaGreatDoor
open Go.RowKit
set_option linter.unusedVariables false
set_option linter.unusedSimpArgs false
theorem RG(q:Int)(h0:0≤q)(h7:q≤7):IntKind.i64.wrap (q-1)=q-1:=by rw[wrap_i64]<;>omega
theorem aaa(m:ac.T)(st z:ab.T)(vs:List aB.T)(ss:List ab.T)(p:Int)(l:List au.T)(i:Nat)(hi:i<l.length)(hz:bU m)(h:a8 m=true)(hb:aC m st=true)(hall:∀x ∈ l,eF x=true)(hl:l.length≤40)(hv:vs.length≤40)(hs:ss.length≤40):
  fI (m,st,z,vs,ss,p,l,(l.length:Int),(i:Int),())=some (.inl (m,(ef m st l[i] p).1,z,vs++ [fq m st l[i]],ss++ [st],(ef m st l[i] p).2,l,(l.length:Int),((i+1:Nat):Int),())):=by
 have hx:=hall _ (List.getElem_mem hi)
 have hk:=Zc m st l[i] hz h hb hx
 have hq:=RF (AL l[i] h hb hx)
 have hmay:=fun to=>aaD m st to hz h hb
 unfold ef rg
 generalize fq m st l[i]=v at hk hq ⊢
 generalize jk m st l[i]=nx at hk ⊢
 have hw:IntKind.i64.wrap (v.2.1.2.1-(1:Int))=v.2.1.2.1-1:=RG _ hq.1.1 hq.1.2
 have r1:∀ {R:Type} (y:Option R),aA (vs.length+ [v].length) y=y:=fun y=>aD (by simp;omega)
 have r2:∀ {R:Type} (y:Option R),aA (ss.length+ [st].length) y=y:=fun y=>aD (by simp;omega)
 simp only[fI,a7 hi,ar hi,aa,hk,hw,hmay,r1,r2,aG hi (show l.length≤1099511627776 by omega),bM,eC]
 generalize v.2.1.2.1-(1:Int)=q
 rcases Bool.eq_false_or_eq_true (decide (q≥0))with g1|g1<;>rcases Bool.eq_false_or_eq_true (EP m st q)with g2|g2<;>rcases Bool.eq_false_or_eq_true (nx.2.2.1==(0:Int))with g3|g3<;>rcases Bool.eq_false_or_eq_true (nx.2.2.2.1==(0:Int))with g4|g4<;>rcases Bool.eq_false_or_eq_true (decide (p≥0))with g5|g5<;>
  simp only[g1,g2,g3,g4,g5,Bool.and_true,Bool.and_false,Bool.true_and,Bool.false_and,if_true,Bool.false_eq_true,if_false,true_and,false_and]<;>
  first|rfl|(rw[if_pos (of_decide_eq_true g1)];done)|(rw[if_neg (of_decide_eq_false g1)];done)|(rw[if_pos (of_decide_eq_true g5)];done)|(rw[if_neg (of_decide_eq_false g5)];done)
theorem aab(m:ac.T)(st z:ab.T)(vs:List aB.T)(p:Int)(l:List au.T)(i:Nat)(hi:i<l.length)(hz:bU m)(h:a8 m=true)(hb:aC m st=true)(hall:∀x ∈ l,eF x=true)(hl:l.length≤40)(hv:vs.length≤40):
  gU (l,m,st,z,vs,p,(i:Int),())=some (.inl (l,m,(ef m st l[i] p).1,z,vs++ [fq m st l[i]],(ef m st l[i] p).2,((i+1:Nat):Int),())):=by
 have hx:=hall _ (List.getElem_mem hi)
 have hk:=Zd m st l[i] hz h hb hx
 have hq:=RF (AL l[i] h hb hx)
 have hmay:=fun to=>aaE m st to hz h hb
 obtain⟨_,_,_,_,hidx⟩:=AK h hb
 unfold ef rg
 generalize fq m st l[i]=v at hk hq ⊢
 generalize jk m st l[i]=nx at hk ⊢
 have hw:IntKind.i64.wrap (v.2.1.2.1-(1:Int))=v.2.1.2.1-1:=RG _ hq.1.1 hq.1.2
 have r1:∀ {R:Type} (y:Option R),aA (vs.length+ [v].length) y=y:=fun y=>aD (by simp;omega)
 have e1:decide (v.2.1.2.1≥(1:Int))=decide (v.2.1.2.1-1≥(0:Int)):=by
  have key:∀q:Int,decide (q≥1)=decide (q-1≥0):=fun q=>by
   by_cases hq:q≥1
   ·rw[decide_eq_true hq,decide_eq_true (by omega)]
   ·rw[decide_eq_false hq,decide_eq_false (by omega)]
  exact key _
 have e3:(v.1==(3:Int))=false→decide (v.2.1.2.1-1≥(0:Int))=false:=fun h3=>by
  have h3:v.1≠3:=by simpa using h3
  have:v.2.1.2.1=0:=hq.2 h3
  rw[this];rfl
 simp only[gU,a7 hi,ar hi,aa,hk,hw,e1,hidx,hmay,r1,aG hi (show l.length≤1099511627776 by omega),bM,eC]
 generalize v.2.1.2.1-(1:Int)=q at e3 ⊢
 rcases Bool.eq_false_or_eq_true (v.1==(3:Int))with g0|g0<;>rcases Bool.eq_false_or_eq_true (decide (q≥0))with g1|g1<;>rcases Bool.eq_false_or_eq_true (EP m st q)with g2|g2<;>rcases Bool.eq_false_or_eq_true (nx.2.2.1==(0:Int))with g3|g3<;>rcases Bool.eq_false_or_eq_true (nx.2.2.2.1==(0:Int))with g4|g4<;>rcases Bool.eq_false_or_eq_true (decide (p≥0))with g5|g5<;>
  (first|(exfalso;rw[e3 g0]at g1;cases g1;done)|skip)<;>
  simp only[g0,g1,g2,g3,g4,g5,Bool.and_true,Bool.and_false,Bool.true_and,Bool.false_and,if_true,Bool.false_eq_true,if_false,true_and,false_and]<;>
  first|rfl|(rw[if_pos (of_decide_eq_true g1)];done)|(rw[if_neg (of_decide_eq_false g1)];done)|(rw[if_pos (of_decide_eq_true g5)];done)|(rw[if_neg (of_decide_eq_false g5)];done)
theorem WJ(m:ac.T)(z:ab.T)(l:List au.T)(hz:bU m)(h:a8 m=true)(hall:∀x ∈ l,eF x=true)(hl:l.length≤40):∀(k i:Nat) (st:ab.T) (vs:List aB.T) (ss:List ab.T) (p:Int),i+k=l.length→aC m st=true→NR m p→vs.length=i→ss.length=i→
  ag fI (m,st,z,vs,ss,p,l,(l.length:Int),(i:Int),())=some (.inl ((aX m (l.drop i) st p).2.2,z,vs++(aX m (l.drop i) st p).1,ss++(aX m (l.drop i) st p).2.1,()))
 |0,i,st,vs,ss,p,hi,hb,hp,hv,hs=>by
  have hi:i=l.length:=by omega
  subst hi
  rw[am]
  simp only[fI,be,List.drop_length,aX,List.append_nil]
 |k+1,i,st,vs,ss,p,hi,hb,hp,hv,hs=>by
  have hlt:i<l.length:=by omega
  obtain⟨a1,a2⟩:=AM (x:=l[i]) (p:=p) h hb hp
  have ih:=WJ m z l hz h hall hl k (i+1) (ef m st l[i] p).1 (vs++ [fq m st l[i]]) (ss++ [st]) (ef m st l[i] p).2 (by omega) a1 a2 (by simp;omega) (by simp;omega)
  rw[am,aaa m st z vs ss p l i hlt hz h hb hall hl (by omega) (by omega)]
  simp only
  rw[ih,List.drop_eq_getElem_cons hlt]
  simp only[aX,List.append_assoc,List.singleton_append]
theorem WK(m:ac.T)(z:ab.T)(l:List au.T)(hz:bU m)(h:a8 m=true)(hall:∀x ∈ l,eF x=true)(hl:l.length≤40):∀(k i:Nat) (st:ab.T) (vs:List aB.T) (p:Int),i+k=l.length→aC m st=true→NR m p→vs.length=i→
  ag gU (l,m,st,z,vs,p,(i:Int),())=some (.inl ((aX m (l.drop i) st p).2.2,z,vs++(aX m (l.drop i) st p).1,()))
 |0,i,st,vs,p,hi,hb,hp,hv=>by
  have hi:i=l.length:=by omega
  subst hi
  rw[am]
  simp only[gU,be,List.drop_length,aX,List.append_nil]
 |k+1,i,st,vs,p,hi,hb,hp,hv=>by
  have hlt:i<l.length:=by omega
  obtain⟨a1,a2⟩:=AM (x:=l[i]) (p:=p) h hb hp
  have ih:=WK m z l hz h hall hl k (i+1) (ef m st l[i] p).1 (vs++ [fq m st l[i]]) (ef m st l[i] p).2 (by omega) a1 a2 (by simp;omega)
  rw[am,aab m st z vs p l i hlt hz h hb hall hl (by omega)]
  simp only
  rw[ih,List.drop_eq_getElem_cons hlt]
  simp only[aX,List.append_assoc,List.singleton_append]
theorem WL(m:ac.T)(st:ab.T)(l:List au.T)(hz:bU m)(h:a8 m=true)(hb:aC m st=true)(hall:∀x ∈ l,eF x=true)(hl:l.length≤40):mY (m,st,l,())=some ((aX m l st (-1)).1,(aX m l st (-1)).2.1,(aX m l st (-1)).2.2,()):=by
 have e:=WJ m dV l hz h hall hl l.length 0 st [] [] (-1) (by omega) hb (.inl rfl) rfl rfl
 have e:ag fI (m,st,((0:Int),(0:Int),(0:Int),(0:Int),(0:Int),()),[],[],(-1:Int),l,(l.length:Int),(0:Int),())=_:=e
 unfold mY
 simp only[e,List.drop_zero,List.nil_append]
theorem RH(m:ac.T)(st:ab.T)(l:List au.T)(hz:bU m)(h:a8 m=true)(hb:aC m st=true)(hall:∀x ∈ l,eF x=true)(hl:l.length≤40):mv (m,st,l,())=some ((aX m l st (-1)).1,(aX m l st (-1)).2.2,()):=by
 have e:=WK m dV l hz h hall hl l.length 0 st [] (-1) (by omega) hb (.inl rfl) rfl
 have e:ag gU (l,m,st,((0:Int),(0:Int),(0:Int),(0:Int),(0:Int),()),[],(-1:Int),(0:Int),())=_:=e
 unfold mv
 simp only[e,List.drop_zero,List.nil_append]
theorem m9(m:ac.T):∀(l:List au.T) (st:ab.T) (p:Int),(aX m l st p).1.length=l.length∧(aX m l st p).2.1.length=l.length
 | [],_,_=>⟨rfl,rfl⟩
 |x::r,st,p=>by
  have:=m9 m r (ef m st x p).1 (ef m st x p).2
  simp only[aX,List.length_cons]
  omega
theorem zu {m:ac.T}(h:a8 m=true):∀(l:List au.T) (st:ab.T) (p:Int),aC m st=true→NR m p→(∀s ∈ (aX m l st p).2.1,aC m s=true)∧aC m (aX m l st p).2.2=true
 | [],st,p,hb,hp=>⟨fun s hs=>(by cases hs),hb⟩
 |x::r,st,p,hb,hp=>by
  obtain⟨a1,a2⟩:=AM (x:=x) (p:=p) h hb hp
  obtain⟨i1,i2⟩:=zu h r (ef m st x p).1 (ef m st x p).2 a1 a2
  refine⟨fun s hs=> ?_,i2⟩
  simp only[aX]at hs
  rcases List.mem_cons.1 hs with rfl|hs
  ·exact hb
  ·exact i1 s hs
end Go.Proofs.YtkgcbbkodalfmaaGreatDoor
namespace Go.Proofs.YtkgcbbkodalfmaaGreatDoor
open Go.RowKit
set_option linter.unusedVariables false
set_option linter.unusedSimpArgs false
theorem aac(m:ac.T)(st:ab.T)(l:List au.T)(hz:bU m)(hl:l.length≤1048576)(hs:∀x ∈ l,gY x):pZ (m,st,l,())=some (if ch m st l=0 then((aX m l st (-1)).1,(aX m l st (-1)).2.2,(0:Int),())else([],dV,ch m st l,())):=by
 have hc:=RD m st l hz hl hs
 unfold pZ
 simp only[hc]
 by_cases h:ch m st l=0
 ·obtain⟨h1,h2,h3,h4⟩:=m8 h
  have hr:=WL m st l hz h1 h2 h4 h3
  have k0:(ch m st l != 0)=false:=by rw[h];rfl
  rw[if_pos h]
  simp only[k0,hr]
 ·have k0:(ch m st l != 0)=true:=by simpa using h
  rw[if_neg h]
  simp only[k0]
  rfl
theorem aad(m:ac.T)(st:ab.T)(l:List au.T)(hz:bU m)(hl:l.length≤1048576)(hs:∀x ∈ l,gY x):qf (m,st,l,())=some (if ch m st l=0 then((aX m l st (-1)).1,(aX m l st (-1)).2.2,(0:Int),())else([],dV,ch m st l,())):=by
 have hc:=RE m st l hz hl hs
 unfold qf
 simp only[hc]
 by_cases h:ch m st l=0
 ·obtain⟨h1,h2,h3,h4⟩:=m8 h
  have hr:=RH m st l hz h1 h2 h4 h3
  have k0:(ch m st l != 0)=false:=by rw[h];rfl
  rw[if_pos h]
  simp only[k0,hr]
 ·have k0:(ch m st l != 0)=true:=by simpa using h
  rw[if_neg h]
  simp only[k0]
  rfl
end Go.Proofs.YtkgcbbkodalfmaaGreatDoor
