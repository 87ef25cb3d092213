import Derived.Test.YtckljdhdadiphaaGreatDoorQ6
namespace Go.Proofs.YtckljdhdadiphaaGreatDoor
open Go.RowKit
set_option linter.unusedVariables false
set_option linter.unusedSimpArgs false
theorem WK(x):∃y,lB x=some y∧True:=by
 unfold lB
 repeat' first
  |exact⟨_,rfl,trivial⟩
  |split
theorem RZ {s:ah.T}(n:Int)(hs:aI s):∃y,sb (s,n,())=some y∧aI (y.2.1.1,y.2.1.2.1,y.2.1.2.2.1,()):=by
 have hs:=cM hs
 unfold sb
 simp only
 repeat' first
  |exact⟨_,rfl,by assumption⟩
  |(split;(rename_i h;exact absurd h (bZ (WK _))))
  |(split;(rename_i h;exact absurd h (bZ (ay (by assumption))));rename_i v h;obtain⟨hd,hg⟩:=br (ay (by assumption)) h)
  |split
theorem aa2 {s:ah.T}(n:Int)(hs:aI s):∃y,sZ (s,n,())=some y∧aI (y.2.1.1,y.2.1.2.1,y.2.1.2.2.1,()):=by
 have hs:=cM hs
 unfold sZ
 simp only[ab]
 split;(rename_i h;exact absurd h (bZ (RZ _ (by assumption))))
 rename_i v1 h1
 have hg1:=br (RZ _ (by assumption)) h1
 repeat' first
  |exact⟨_,rfl,by assumption⟩
  |(split;(rename_i h;exact absurd h (bZ (ay (by assumption))));rename_i v h;obtain⟨hd,hg⟩:=br (ay (by assumption)) h)
  |(first|(split;rotate_left;(rename_i h;exact absurd h (lE (by assumption) (by simp) (by first|assumption|simp))))|(split;(rename_i h;exact absurd h (rP (by assumption) (by simp) (by first|assumption|simp)));rename_i v h))
  |split
theorem Ij(at_:Int):∀(k:Nat) (s:ah.T) (l:List bl.T),aI s→l.length+k≤10→∃s' l',ac iG (s,at_,l,(k:Int),())=some (.inl (s',l',()))∧aI s'∧l'.length≤10
 |0,s,l,hs,hl=>by
  refine⟨s,l, ?_,hs,by omega⟩
  rw[aj]
  simp only[iG,Cc]
 |k+1,s,l,hs,hl=>by
  obtain⟨y,hy,hg⟩:=aa2 at_ hs
  have hy:sZ ((s.1,s.2.1,s.2.2.1,()),at_,())=some y:=hy
  have hr:∀ {R:Type} (u:bl.T) (q:Option R),aH (l.length+ [u].length) q=q:=fun u q=>aC (by simp;omega)
  have hf:=RN (y.1,())
  have hf:mC ((y.1.1,y.1.2.1,y.1.2.2.1,y.1.2.2.2.1,()),())=_:=hf
  obtain⟨z,hz,hd,hg2⟩:=ay (n:=4) hg
  have key:∃x':ah.T×List bl.T,iG (s,at_,l,((k+1:Nat):Int),())=some (.inl (x'.1,at_,x'.2,(k:Int),()))∧aI x'.1∧x'.2.length+k≤10:=by
   simp only[iG,Cb,hy,hf,hr,hz,Ca (show k≤1000000 by omega)]
   repeat' first
    |exact⟨(_,l++ [_]),rfl,by assumption,by simp;omega⟩
    |exact⟨(_,l),rfl,by assumption,by show l.length+k≤10;omega⟩
    |split
  obtain⟨x',h1,h2,h3⟩:=key
  obtain⟨s',l',h4,h5,h6⟩:=Ij at_ k x'.1 x'.2 h2 h3
  refine⟨s',l', ?_,h5,h6⟩
  rw[aj,h1]
  exact h4
theorem Ik:∀(k:Nat) (s:ah.T) (l:List bl.T),aI s→l.length+k=31→∃s' l',ac iH (s,l,())=some (.inl (s',l',()))∧aI s'∧l'.length≤31
 |0,s,l,hs,hl=>by
  obtain⟨z,hz,hd,hg⟩:=ay (n:=2) hs
  have hz:aa ((s.1,s.2.1,s.2.2.1,()),(2:Int),())=some z:=hz
  obtain⟨a,ha,ha2⟩:=cb hd (by omega)
  have e:IntKind.i64.wrap ((30:Int)+(a:Int))=(30:Int)+(a:Int):=ai (by omega) (by omega)
  refine⟨z.2.1,l, ?_,hg,by omega⟩
  rw[aj]
  simp only[iH,hz,ha,e,rQ (show ¬(l.length:Int)<(30:Int)+(a:Int) by omega)]
 |k+1,s,l,hs,hl=>by
  obtain⟨z,hz,hd,hg⟩:=ay (n:=2) hs
  have hz:aa ((s.1,s.2.1,s.2.2.1,()),(2:Int),())=some z:=hz
  obtain⟨a,ha,ha2⟩:=cb hd (by omega)
  have e:IntKind.i64.wrap ((30:Int)+(a:Int))=(30:Int)+(a:Int):=ai (by omega) (by omega)
  by_cases hc:(l.length:Int)<(30:Int)+(a:Int)
  ·obtain⟨s',l',h1,h2,h3⟩:=Ik k (z.2.1.1,z.2.1.2.1,z.2.1.2.2.1,()) (l++ [((1:Int),(3:Int),(0:Int),(0:Int),())]) hg (by simp;omega)
   refine⟨s',l', ?_,h2,h3⟩
   rw[aj]
   simp only[iH,hz,ha,e,pe hc]
   rw[aC (by simp;omega)]
   exact h1
  ·refine⟨z.2.1,l, ?_,hg,by omega⟩
   rw[aj]
   simp only[iH,hz,ha,e,rQ hc]
theorem R0 {s:ah.T}(n:Int)(hs:aI s):∃y,pC (s,n,())=some y∧(aI (y.2.1.1,y.2.1.2.1,y.2.1.2.2.1,())∧y.1.length≤100):=by
 obtain⟨v1,e1,hd1,hg1⟩:=ay (n:=5) hs
 have e1:aa ((s.1,s.2.1,s.2.2.1,()),(5:Int),())=some v1:=e1
 obtain⟨a,ha,ha2⟩:=cb hd1 (by omega)
 obtain⟨s2,l2,e2,hg2,hl2⟩:=Ij n a (v1.2.1.1,v1.2.1.2.1,v1.2.1.2.2.1,()) [] hg1 (by simp;omega)
 obtain⟨v3,e3,hd3,hg3⟩:=ay (n:=40) hg2
 have e3:aa ((s2.1,s2.2.1,s2.2.2.1,()),(40:Int),())=some v3:=e3
 obtain⟨s4,l4,e4,hg4,hl4⟩:=Ik (31-l2.length) (v3.2.1.1,v3.2.1.2.1,v3.2.1.2.2.1,()) l2 hg3 (by omega)
 unfold pC
 simp only[e1,ha,e2,e3]
 split
 ·simp only[e4]
  exact⟨_,rfl,hg4,by show l4.length≤100;omega⟩
 ·exact⟨_,rfl,hg3,by show l2.length≤100;omega⟩
end Go.Proofs.YtckljdhdadiphaaGreatDoor
namespace Go.Proofs.YtckljdhdadiphaaGreatDoor
open Go.RowKit
set_option linter.unusedVariables false
set_option linter.unusedSimpArgs false
theorem Il(l:List Int)(f:bl.T)(a:Nat)(ha:f.2.1=(a:Int))(h3:a+3≤l.length)(hl:l.length≤8192):∀(k i:Nat),i+k=a+3→
  ∃o,ac dV (l,f,(i:Int),())=some o∧(o= .inl (l,f,())∨o= .inr (false,()))
 |0,i,hi=>by
  have e:IntKind.i64.wrap (f.2.1+(2:Int))=((a+2:Nat):Int):=by rw[ha,ai]<;>omega
  refine⟨.inl (l,f,()), ?_,.inl rfl⟩
  rw[aj]
  simp only[dV,e,decide_eq_false (show ¬(i:Int)≤((a+2:Nat):Int) by omega)]
 |k+1,i,hi=>by
  have e:IntKind.i64.wrap (f.2.1+(2:Int))=((a+2:Nat):Int):=by rw[ha,ai]<;>omega
  have hli:i<l.length:=by omega
  have hla:a<l.length:=by omega
  have i2:av l f.2.1=some l[a]:=by rw[ha];exact au hla
  by_cases hq:(l[i] != l[a])=true
  ·refine⟨.inr (false,()), ?_,.inr rfl⟩
   rw[aj]
   simp only[dV,e,decide_eq_true (show(i:Int)≤((a+2:Nat):Int) by omega),au hli,i2,ab,hq]
  ·have hq:(l[i] != l[a])=false:=by simpa using hq
   obtain⟨o,h1,h2⟩:=Il l f a ha h3 hl k (i+1) (by omega)
   refine⟨o, ?_,h2⟩
   rw[aj]
   simp only[dV,e,decide_eq_true (show(i:Int)≤((a+2:Nat):Int) by omega),au hli,i2,ab,hq,aL hli (show l.length≤1099511627776 by omega)]
   exact h1
theorem OO(l:List Int)(hl:l.length≤8192)(k a c v:Int):∃b:Bool,oa (l,(k,a,c,v,()),())=some (b,()):=by
 have hw:IntKind.i64.wrap ((l.length:Int)-3)=(l.length:Int)-3:=by rw[ai]<;>omega
 unfold oa
 simp only[gS,hw]
 by_cases hin:aY a 2 ((l.length:Int)-3)=true
 ·obtain⟨h0,h1⟩:=bc.1 hin
  obtain⟨n,rfl⟩:∃n:Nat,a=(n:Int):=⟨a.toNat,by omega⟩
  have hw2:IntKind.i64.wrap ((n:Int)-2)=((n-2:Nat):Int):=by rw[ai]<;>omega
  obtain⟨o,e1,e2⟩:=Il l (k,(n:Int),c,v,()) n rfl (by omega) hl 5 (n-2) (by omega)
  have e1:ac dV (l,(k,(n:Int),c,v,()),((n-2:Nat):Int),())=_:=e1
  have hln:n<l.length:=by omega
  simp only[hin,Bool.not_true,hw2,e1]
  rcases e2 with rfl|rfl
  ·simp only[au hln,ab]
   repeat' first
    |exact⟨_,rfl⟩
    |split
  ·simp only
   repeat' first
    |exact⟨_,rfl⟩
    |split
 ·have hin:aY a 2 ((l.length:Int)-3)=false:=by simpa using hin
  simp only[hin,Bool.not_false]
  repeat' first
   |exact⟨_,rfl⟩
   |split
theorem Ma(n:Int):∀(k:Nat) (s:ah.T) (out:List bl.T) (a:Int),out.length+k=25→aI s→0≤a→a+60*(k:Int)≤100000→
  ∃(s':ah.T) (out':List bl.T),ac cY (s,out,n,a,())=some (.inl (s',out',()))∧aI s'∧out'.length≤25
 |0,s,out,a,hk,hs,h0,h1=>by
  refine⟨s,out, ?_,hs,by omega⟩
  rw[aj]
  simp only[cY,decide_eq_false (show ¬(out.length:Int)<25 by omega)]
  by_cases hn:a<n
  ·simp only[decide_eq_true hn]
  ·simp only[decide_eq_false hn]
 |k+1,s,out,a,hk,hs,h0,h1=>by
  by_cases hn:a<n
  ·obtain⟨y,hy,hd,hg⟩:=ay (n:=40) hs
   have hy:aa ((s.1,s.2.1,s.2.2.1,()),(40:Int),())=some y:=hy
   have hq:=eC hd (by omega)
   have w1:IntKind.i64.wrap (a+6)=a+6:=by rw[ai]<;>omega
   have w2:IntKind.i64.wrap (a+6+y.1)=a+6+y.1:=ai (by omega) (by omega)
   obtain⟨s',out',e1,e2,e3⟩:=Ma n k (y.2.1.1,y.2.1.2.1,y.2.1.2.2.1,()) (out++ [((1:Int),a,(0:Int),(0:Int),())]) (a+6+y.1) (by simp;omega) hg (by omega) (by omega)
   refine⟨s',out', ?_,e2,e3⟩
   rw[aj]
   simp only[cY,decide_eq_true hn,decide_eq_true (show(out.length:Int)<25 by omega),hy,w1,w2]
   rw[aC (by simp;omega)]
   exact e1
  ·refine⟨s,out, ?_,hs,by omega⟩
   rw[aj]
   simp only[cY,decide_eq_false hn]
theorem vG {k a v:Int}(hk:k=3∨k=4)(h0:0≤a)(h1:a≤8192)(hv:k=4→v=0∨v=1)(hv3:k=3→v=0):iR (k,a,(1:Int),v,())=true:=by
 have ha:aY a 0 8192=true:=bc.2 ⟨h0,h1⟩
 rcases hk with rfl|rfl
 ·have:=hv3 rfl
  subst this
  show(aY (3:Int) 1 6&&(aY a 0 8192&&((if B7 (3:Int)then aY (1:Int) 1 8192 else(1:Int)==(0:Int))&&(if Gj (3:Int)then aY (0:Int) 0 1 else(0:Int)==(0:Int)))))=true
  rw[ha]
  rfl
 ·rcases hv rfl with rfl|rfl
  ·show(aY (4:Int) 1 6&&(aY a 0 8192&&((if B7 (4:Int)then aY (1:Int) 1 8192 else(1:Int)==(0:Int))&&(if Gj (4:Int)then aY (0:Int) 0 1 else(0:Int)==(0:Int)))))=true
   rw[ha]
   rfl
  ·show(aY (4:Int) 1 6&&(aY a 0 8192&&((if B7 (4:Int)then aY (1:Int) 1 8192 else(1:Int)==(0:Int))&&(if Gj (4:Int)then aY (1:Int) 0 1 else(1:Int)==(0:Int)))))=true
   rw[ha]
   rfl
theorem WL {n fl nw a a' M:Nat}(h:n<10)(hM:(10-n)*20000+(nw+1-a)≤M+1)(hf:fl≤8192):(10-(n+1))*20000+(fl+1-a')≤M:=by
 obtain⟨q,hq⟩:∃q,10-n=q+1:=⟨9-n,by omega⟩
 have hq2:10-(n+1)=q:=by omega
 rw[hq,Nat.succ_mul]at hM
 rw[hq2]
 generalize q*20000=Q at hM ⊢
 omega
theorem Vb:∀(M:Nat) (s:ah.T) (out:List bl.T) (a:Nat) (now:List Int),(10-out.length)*20000+(now.length+1-a)≤M→out.length≤10→bJ now=true→a≤20000→aI s→
  ∃(s':ah.T) (out':List bl.T),ac bX (s,out,(a:Int),now,())=some (.inl (s',out',()))∧aI s'∧out'.length≤10:=by
 intro M
 induction M with
 |zero=>
  intro s out a now hM ho hb ha hs
  have hl:=cK hb
  have w3:IntKind.i64.wrap ((a:Int)+3)=(a:Int)+3:=by rw[ai]<;>omega
  refine⟨s,out, ?_,hs,ho⟩
  rw[aj]
  simp only[bX,w3,decide_eq_false (show ¬(a:Int)+3<(now.length:Int) by omega)]
 |succ M ih=>
  intro s out a now hM ho hb ha hs
  have hl:=cK hb
  have w3:IntKind.i64.wrap ((a:Int)+3)=(a:Int)+3:=by rw[ai]<;>omega
  by_cases h3:(a:Int)+3<(now.length:Int)
  ·by_cases ho10:(out.length:Int)<10
   ·have hla:a<now.length:=by omega
    obtain⟨v24,e24,d24,g24⟩:=ay (n:=2) hs
    have e24:aa ((s.1,s.2.1,s.2.2.1,()),(2:Int),())=some v24:=e24
    obtain⟨b,hb24,hb2⟩:=cb d24 (by omega)
    have wk:IntKind.i64.wrap ((3:Int)+(b:Int))=(3:Int)+(b:Int):=by rw[ai]<;>omega
    obtain⟨v27,e27,d27,g27⟩:=ay (n:=24) g24
    have wa1:IntKind.i64.wrap ((a:Int)+1)=((a+1:Nat):Int):=by rw[ai]<;>omega
    have step:∀(v:Int) (sq:ah.T),aI sq→iR ((3:Int)+(b:Int),(a:Int),(1:Int),v,())=true→∃v29 v30 s' out',aa (sq,(60:Int),())=some v29∧aa ((v29.2.1.1,v29.2.1.2.1,v29.2.1.2.2.1,()),(30:Int),())=some v30∧gc (now,((3:Int)+(b:Int),(a:Int),(1:Int),v,()),())=some (lz now ((3:Int)+(b:Int),(a:Int),(1:Int),v,()),())∧
      ac bX ((v30.2.1.1,v30.2.1.2.1,v30.2.1.2.2.1,()),out++ [((3:Int)+(b:Int),(a:Int),(1:Int),v,())],IntKind.i64.wrap ((IntKind.i64.wrap ((IntKind.i64.wrap ((a:Int)+(160:Int)))+v29.1))-(IntKind.i64.wrap ((IntKind.i64.wrap (Int.tdiv v30.1 (29:Int)))*(9:Int)))),lz now ((3:Int)+(b:Int),(a:Int),(1:Int),v,()),())=some (.inl (s',out',()))∧aI s'∧out'.length≤10:=fun v sq hsq hf=>by
     obtain⟨v29,e29,d29,g29⟩:=ay (n:=60) hsq
     obtain⟨v30,e30,d30,g30⟩:=ay (n:=30) g29
     have q29:=eC d29 (by omega)
     obtain⟨c,hc,hc2⟩:=cb d30 (by omega)
     have hap:=L2 now hl _ hf
     have hbf:=U3 hb hf
     have hfl:=cK hbf
     have t1:Int.tdiv (c:Int) 29=((c / 29:Nat):Int):=rfl
     have t2:IntKind.i64.wrap ((c / 29:Nat):Int)=((c / 29:Nat):Int):=by rw[ai]<;>omega
     have t3:IntKind.i64.wrap (((c / 29:Nat):Int)*9)=((c / 29*9:Nat):Int):=by rw[ai]<;>omega
     have t4:IntKind.i64.wrap ((a:Int)+160)=(a:Int)+160:=by rw[ai]<;>omega
     have t5:IntKind.i64.wrap ((a:Int)+160+v29.1)=(a:Int)+160+v29.1:=ai (by omega) (by omega)
     obtain⟨p,hp⟩:∃p:Nat,v29.1=(p:Int):=⟨Int.toNat v29.1,(Int.toNat_of_nonneg q29.1).symm⟩
     rw[hp]at q29
     have t6:IntKind.i64.wrap ((a:Int)+160+(p:Int)-((c / 29*9:Nat):Int))=((a+160+p-c / 29*9:Nat):Int):=by rw[ai]<;>omega
     obtain⟨s',out',r1,r2,r3⟩:=ih (v30.2.1.1,v30.2.1.2.1,v30.2.1.2.2.1,()) (out++ [((3:Int)+(b:Int),(a:Int),(1:Int),v,())]) (a+160+p-c / 29*9) (lz now ((3:Int)+(b:Int),(a:Int),(1:Int),v,())) (by rw[List.length_append,List.length_singleton];exact WL (by omega) hM hfl) (by rw[List.length_append,List.length_singleton];omega) hbf (by omega) g30
     refine⟨v29,v30,s',out',e29,e30,hap, ?_,r2,r3⟩
     rw[t4,t5,hc,t1,t2,t3,hp,t6]
     exact r1
    have hcont:∃s' out',ac bX ((v27.2.1.1,v27.2.1.2.1,v27.2.1.2.2.1,()),out,((a+1:Nat):Int),now,())=some (.inl (s',out',()))∧aI s'∧out'.length≤10:=ih (v27.2.1.1,v27.2.1.2.1,v27.2.1.2.2.1,()) out (a+1) now (by omega) ho hb (by omega) g27
    have hroom:∀ {R:Type} (u:bl.T) (q:Option R),aH (out.length+ [u].length) q=q:=fun u q=>aC (by simp;omega)
    have hbit:now[a]=0∨now[a]=1:=rE hb hla
    obtain⟨sc,oc,c1,c2,c3⟩:=hcont
    rcases(show b=0∨b=1 by omega)with rfl|rfl
    ·have h34:(((3:Int)+((0:Nat):Int))==4)=false:=rfl
     obtain⟨bw,hw⟩:=OO now hl ((3:Int)+((0:Nat):Int)) (a:Int) 1 0
     obtain⟨x1,x2,x3,x4,y1,y2,y3,y4,y5,y6⟩:=step 0 (v27.2.1.1,v27.2.1.2.1,v27.2.1.2.2.1,()) g27 (vG (.inl rfl) (by omega) (by omega) (fun q=>absurd q (by decide)) (fun _=>rfl))
     obtain⟨z1,z2,z3,z4,u1,u2,u3,u4,u5,u6⟩:=step 0 (v24.2.1.1,v24.2.1.2.1,v24.2.1.2.2.1,()) g24 (vG (.inl rfl) (by omega) (by omega) (fun q=>absurd q (by decide)) (fun _=>rfl))
     rw[aj]
     simp only[bX,w3,decide_eq_true h3,decide_eq_true ho10,e24,hb24,wk,h34,hw,e27,wa1,hroom,y1,y2,y3,u1,u2,u3]
     cases bw
     ·simp only[Bool.not_false]
      by_cases h27:v27.1>0
      ·simp only[decide_eq_true h27]
       exact⟨sc,oc,c1,c2,c3⟩
      ·simp only[decide_eq_false h27]
       exact⟨x3,x4,y4,y5,y6⟩
     ·simp only[Bool.not_true]
      exact⟨z3,z4,u4,u5,u6⟩
    ·have h34:(((3:Int)+((1:Nat):Int))==4)=true:=rfl
     obtain⟨bw,hw⟩:=OO now hl ((3:Int)+((1:Nat):Int)) (a:Int) 1 now[a]
     obtain⟨x1,x2,x3,x4,y1,y2,y3,y4,y5,y6⟩:=step now[a] (v27.2.1.1,v27.2.1.2.1,v27.2.1.2.2.1,()) g27 (vG (.inr rfl) (by omega) (by omega) (fun _=>hbit) (fun q=>absurd q (by decide)))
     obtain⟨z1,z2,z3,z4,u1,u2,u3,u4,u5,u6⟩:=step now[a] (v24.2.1.1,v24.2.1.2.1,v24.2.1.2.2.1,()) g24 (vG (.inr rfl) (by omega) (by omega) (fun _=>hbit) (fun q=>absurd q (by decide)))
     rw[aj]
     simp only[bX,w3,decide_eq_true h3,decide_eq_true ho10,e24,hb24,wk,h34,au hla,ab,hw,e27,wa1,hroom,y1,y2,y3,u1,u2,u3]
     cases bw
     ·simp only[Bool.not_false]
      by_cases h27:v27.1>0
      ·simp only[decide_eq_true h27]
       exact⟨sc,oc,c1,c2,c3⟩
      ·simp only[decide_eq_false h27]
       exact⟨x3,x4,y4,y5,y6⟩
     ·simp only[Bool.not_true]
      exact⟨z3,z4,u4,u5,u6⟩
   ·refine⟨s,out, ?_,hs,ho⟩
    rw[aj]
    simp only[bX,w3,decide_eq_true h3,decide_eq_false ho10]
  ·refine⟨s,out, ?_,hs,ho⟩
   rw[aj]
   simp only[bX,w3,decide_eq_false h3]
theorem aa3 {s:ah.T}(X:List Int)(hl:X.length≤8192)(hs:aI s):∃y,jS (s,X,())=some y∧(aI (y.2.1.1,y.2.1.2.1,y.2.1.2.2.1,())∧y.1.length≤100):=by
 have hbX:=tk X (by omega)
 unfold jS
 simp only[hbX]
 cases hb:bJ X with
 |false=>exact⟨_,rfl,cM hs,Nat.zero_le _⟩
 |true=>
  obtain⟨v2,e2,d2,g2⟩:=ay (n:=5) hs
  have e2:aa ((s.1,s.2.1,s.2.2.1,()),(5:Int),())=some v2:=e2
  obtain⟨v3,e3,g3,l3⟩:=R0 (X.length:Int) g2
  obtain⟨v4,e4,d4,g4⟩:=ay (n:=20) g2
  have q4:=eC d4 (by omega)
  obtain⟨s6,o6,e6,g6,l6⟩:=Ma (X.length:Int) 25 (v4.2.1.1,v4.2.1.2.1,v4.2.1.2.2.1,()) [] v4.1 rfl g4 q4.1 (by omega)
  obtain⟨v8,e8,d8,g8⟩:=ay (n:=12) g6
  have e8:aa ((s6.1,s6.2.1,s6.2.2.1,()),(12:Int),())=some v8:=e8
  obtain⟨v23,e23,d23,g23⟩:=ay (n:=60) g2
  obtain⟨a,ha,ha2⟩:=cb d23 (by omega)
  obtain⟨s42,o42,e42,g42,l42⟩:=Vb _ (v23.2.1.1,v23.2.1.2.1,v23.2.1.2.2.1,()) [] a X (Nat.le_refl _) (by simp) hb (by omega) g23
  have hl6:o6.length≤100:=by omega
  have hl42:o42.length≤100:=by omega
  have hset:∀u:bl.T,(o6.set ((1:Int).toNat) u).length≤100:=fun u=>by rw[List.length_set];exact hl6
  simp only[Bool.not_true,e2,e3,e4,e6,e8,e23,ha,e42]
  have tail:∃y,(match decide ((o6.length:Int)>(1:Int))with
    |true=>match(v8.1==(0:Int))with
     |true=>ab (av o6 (0:Int)) fun _=>match o6[(0:Int).toNat]? with
      |none=>none
      |some v10=>ab (av o6 (1:Int)) fun _=>match o6[(1:Int).toNat]? with
       |none=>none
       |some v12=>some ((o6.set ((1:Int).toNat) (v12.1,(IntKind.i64.wrap (v10.2.1+(5:Int))),v12.2.2.1,v12.2.2.2.1,())),(v8.2.1.1,v8.2.1.2.1,v8.2.1.2.2.1,()),())
     |false=>some (o6,(v8.2.1.1,v8.2.1.2.1,v8.2.1.2.2.1,()),())
    |false=>some (o6,(s6.1,s6.2.1,s6.2.2.1,()),()))=some y∧(aI (y.2.1.1,y.2.1.2.1,y.2.1.2.2.1,())∧y.1.length≤100):=by
   by_cases h1:(o6.length:Int)>1
   ·have p0:0<o6.length:=by omega
    have p1:1<o6.length:=by omega
    have i0:av o6 (0:Int)=some o6[0]:=au p0
    have i1:av o6 (1:Int)=some o6[1]:=au p1
    have j0:o6[(0:Int).toNat]? =some o6[0]:=List.getElem?_eq_getElem p0
    have j1:o6[(1:Int).toNat]? =some o6[1]:=List.getElem?_eq_getElem p1
    simp only[decide_eq_true h1,i0,i1,j0,j1,ab]
    split
    ·exact⟨_,rfl,g8,hset _⟩
    ·exact⟨_,rfl,g8,hl6⟩
   ·simp only[decide_eq_false h1]
    exact⟨_,rfl,cM g6,hl6⟩
  split
  ·exact⟨_,rfl,g3,l3⟩
  ·split
   ·exact tail
   ·split
    ·exact tail
    ·exact⟨_,rfl,cM g42,hl42⟩
end Go.Proofs.YtckljdhdadiphaaGreatDoor
